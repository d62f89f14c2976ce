/-
  A plan's rectangles are sharp: a pixel differs at every edge.
-/
import Derived.Test.YtmmcadbkmfjcbaaDoorP5
namespace Go.Proofs.YtmmcadbkmfjcbaaDoor

structure Sharp (xs ys : List Nat) (r : R) : Prop where
  top : ∃ i : Nat, r.x ≤ i ∧ (i : Int) < r.x + r.w ∧ Differ xs ys r.y.toNat i
  bottom : ∃ i : Nat, r.x ≤ i ∧ (i : Int) < r.x + r.w ∧ Differ xs ys (r.y + r.h - 1).toNat i
  left : ∃ j : Nat, r.y ≤ j ∧ (j : Int) < r.y + r.h ∧ Differ xs ys j r.x.toNat
  right : ∃ j : Nat, r.y ≤ j ∧ (j : Int) < r.y + r.h ∧ Differ xs ys j (r.x + r.w - 1).toNat
theorem both_x {a b : R} (ha : 1 ≤ a.w) (hb : 1 ≤ b.w) : (bothR a b).x = (if a.x ≤ b.x then a.x else b.x) ∧ (bothR a b).x + (bothR a b).w = (if b.x + b.w ≤ a.x + a.w then a.x + a.w else b.x + b.w) := by
  unfold bothR mnI mxI
  simp only
  constructor <;> (repeat' split) <;> omega
theorem sharp_both {xs ys : List Nat} {k : Int} {a b : R} (ga : Good k a) (gb : Good k b) (hy : a.y + a.h ≤ b.y) (ha : Sharp xs ys a) (hb : Sharp xs ys b) : Sharp xs ys (bothR a b) := by
  have wa := ga.w
  have wb := gb.w
  have ka := ga.h
  have kb := gb.h
  obtain ⟨y1, y2⟩ := both_y hy (by omega) (by omega)
  obtain ⟨x1, x2⟩ := both_x wa wb
  generalize bothR a b = c at *
  have lo : c.x ≤ a.x ∧ c.x ≤ b.x := by rw [x1]; split <;> omega
  have hi : a.x + a.w ≤ c.x + c.w ∧ b.x + b.w ≤ c.x + c.w := by rw [x2]; split <;> omega
  refine ⟨?_, ?_, ?_, ?_⟩
  · obtain ⟨i, h1, h2, h3⟩ := ha.top
    exact ⟨i, by omega, by omega, by rw [y1]; exact h3⟩
  · obtain ⟨i, h1, h2, h3⟩ := hb.bottom
    exact ⟨i, by omega, by omega, by rw [y2]; exact h3⟩
  · by_cases h : a.x ≤ b.x
    · obtain ⟨j, h1, h2, h3⟩ := ha.left
      exact ⟨j, by omega, by omega, by rw [x1, if_pos h]; exact h3⟩
    · obtain ⟨j, h1, h2, h3⟩ := hb.left
      exact ⟨j, by omega, by omega, by rw [x1, if_neg h]; exact h3⟩
  · by_cases h : b.x + b.w ≤ a.x + a.w
    · obtain ⟨j, h1, h2, h3⟩ := ha.right
      exact ⟨j, by omega, by omega, by rw [x2, if_pos h]; exact h3⟩
    · obtain ⟨j, h1, h2, h3⟩ := hb.right
      exact ⟨j, by omega, by omega, by rw [x2, if_neg h]; exact h3⟩
theorem differ_of_bit {n : Nat} {xs ys : List Nat} {k i : Nat} (h : (diffA n (xs.getD k 0) (ys.getD k 0)).testBit i = true) : Differ xs ys k i := by
  rw [diff_bit] at h
  unfold Differ
  revert h
  cases (xs.getD k 0).testBit i <;> cases (ys.getD k 0).testBit i <;> simp
theorem sharp_span {n : Nat} {xs ys : List Nat} {k : Nat} (hn : n ≤ 64) (h0 : diffA n (xs.getD k 0) (ys.getD k 0) ≠ 0) : Sharp xs ys (spanA (diffA n (xs.getD k 0) (ys.getD k 0)) k) := by
  have T := span_tight (diffA_lt n (xs.getD k 0) (ys.getD k 0) hn) h0 k
  have e : (spanA (diffA n (xs.getD k 0) (ys.getD k 0)) k).y = k ∧ (spanA (diffA n (xs.getD k 0) (ys.getD k 0)) k).h = 1 := ⟨rfl, rfl⟩
  have d1 := differ_of_bit T.first
  have d2 := differ_of_bit T.last
  have hx := T.x0
  have hw := T.w0
  generalize spanA (diffA n (xs.getD k 0) (ys.getD k 0)) k = s at *
  obtain ⟨e1, e2⟩ := e
  refine ⟨⟨s.x.toNat, by omega, by omega, ?_⟩, ⟨s.x.toNat, by omega, by omega, ?_⟩, ⟨k, by omega, by omega, d1⟩, ⟨k, by omega, by omega, d2⟩⟩
  · rw [e1, Int.toNat_natCast]; exact d1
  · rw [e1, e2, show ((k : Int) + 1 - 1).toNat = k by omega]; exact d1
theorem pieces_sharp (n : Nat) (xs ys : List Nat) (hn : n ≤ 64) : ∀ k, (∀ r ∈ (piecesA n xs ys k).1, Sharp xs ys r) ∧ (0 < (piecesA n xs ys k).2.h → Sharp xs ys (piecesA n xs ys k).2)
  | 0 => by simp [piecesA, zeroR]
  | k + 1 => by
    obtain ⟨i1, i2⟩ := pieces_sharp n xs ys hn k
    obtain ⟨g1, g2⟩ := pieces_good n xs ys hn k
    unfold piecesA stepA
    have hlt := diffA_lt n (xs.getD k 0) (ys.getD k 0) hn
    have hsp := sharp_span (n := n) (xs := xs) (ys := ys) (k := k) hn
    generalize diffA n (xs.getD k 0) (ys.getD k 0) = x at *
    generalize piecesA n xs ys k = s at *
    split
    · split
      · rename_i hs
        refine ⟨fun r hr => ?_, fun h => by simp [zeroR] at h⟩
        rcases List.mem_append.1 hr with h | h
        · exact i1 r h
        · simp at h; rw [h]; exact i2 hs
      · rename_i hs
        exact ⟨i1, fun h => absurd h hs⟩
    · rename_i hx0
      refine ⟨i1, fun _ => ?_⟩
      simp only
      split
      · rename_i hs
        have hgs : Good ((k + 1 : Nat) : Int) (spanA x k) := by have := span_good (k := k) hlt hx0; simpa using this
        exact sharp_both ((g2 hs).mono (by omega)) hgs (good_y (g2 hs)) (i2 hs) (hsp hx0)
      · exact hsp hx0
theorem piecesF_sharp (n : Nat) (xs ys : List Nat) (hn : n ≤ 64) : ∀ r ∈ piecesF n xs ys, Sharp xs ys r := by
  obtain ⟨h1, h2⟩ := pieces_sharp n xs ys hn xs.length
  intro r hr
  unfold piecesF closeA at hr
  split at hr
  · rename_i hs
    rcases List.mem_append.1 hr with h | h
    · exact h1 r h
    · simp at h; rw [h]; exact h2 hs
  · exact h1 r hr
theorem join_sharp {k : Int} {b : Nat} {xs ys : List Nat} {rs : List R} (h : b + 2 ≤ rs.length) (hg : ∀ r ∈ rs, Good k r) (ha : Apart rs) (hs : ∀ r ∈ rs, Sharp xs ys r) : ∀ r ∈ joinA rs b, Sharp xs ys r := by
  obtain ⟨A, p, q, D, e1, _, e3⟩ := split_two h
  rw [e3]
  rw [e1] at ha hg hs
  unfold Apart at ha
  rw [List.pairwise_append, List.pairwise_cons] at ha
  have hpq := ha.2.1.1 q (by simp)
  intro r hr
  rcases List.mem_append.1 hr with h1 | h1
  · exact hs r (by simp [h1])
  · rcases List.mem_cons.1 h1 with rfl | h2
    · exact sharp_both (hg p (by simp)) (hg q (by simp)) hpq (hs p (by simp)) (hs q (by simp))
    · exact hs r (by simp [h2])
/-- A plan is sharp, and one rectangle below the other. -/
theorem plan_sharp {n many : Nat} {xs ys : List Nat} (h1 : 1 ≤ n) (h2 : n ≤ 64) (h3 : xs.length = ys.length) (h4 : xs.length ≤ 64) (h5 : 1 ≤ many) : Apart (planA n many xs ys) ∧ ∀ r ∈ planA n many xs ys, Sharp xs ys r := by
  unfold planA
  rw [if_pos ⟨by omega, by omega, h3, h4, by omega⟩]
  simp only [Int.toNat_natCast]
  have := thin_all (P := fun l => (∀ r ∈ l, Good xs.length r) ∧ Apart l ∧ ∀ r ∈ l, Sharp xs ys r) (init := 4096) many h5 (fun l b hb h => ⟨join_good hb h.1, join_apart hb h.1 h.2.1, join_sharp hb h.1 h.2.1 h.2.2⟩) 65 _ ⟨piecesF_good n xs ys h2, piecesF_apart n xs ys h2, piecesF_sharp n xs ys h2⟩
  exact this.2
end Go.Proofs.YtmmcadbkmfjcbaaDoor
