/-
  Plans with more rectangles: the area; the same pages; one pixel.
-/
import Derived.Test.YtmmcadbkmfjcbaaDoorP3
namespace Go.Proofs.YtmmcadbkmfjcbaaDoor

/-- Rectangles one below the other. -/
def Apart (l : List R) : Prop := l.Pairwise fun p q => p.y + p.h ≤ q.y
theorem apart_snoc {l : List R} {q : R} (h : Apart l) (hq : ∀ p ∈ l, p.y + p.h ≤ q.y) : Apart (l ++ [q]) := by
  unfold Apart
  rw [List.pairwise_append]
  exact ⟨h, List.pairwise_singleton _ _, fun p hp r hr => by simp at hr; rw [hr]; exact hq p hp⟩
theorem good_y {k : Int} {r : R} (h : Good k r) : r.y + r.h ≤ k := by
  obtain ⟨⟨_, _, _, _, _, h6⟩, _, _⟩ := h
  exact h6
theorem both_y {a b : R} (h : a.y + a.h ≤ b.y) (ha : 0 ≤ a.h) (hb : 0 ≤ b.h) : (bothR a b).y = a.y ∧ (bothR a b).y + (bothR a b).h = b.y + b.h := by
  unfold bothR mnI mxI
  simp only
  constructor <;> (repeat' split) <;> omega
theorem pieces_apart (n : Nat) (xs ys : List Nat) (hn : n ≤ 64) : ∀ k, Apart (piecesA n xs ys k).1 ∧ (0 < (piecesA n xs ys k).2.h → ∀ p ∈ (piecesA n xs ys k).1, p.y + p.h ≤ (piecesA n xs ys k).2.y)
  | 0 => by simp [piecesA, Apart]
  | k + 1 => by
    obtain ⟨i1, i2⟩ := pieces_apart n xs ys hn k
    obtain ⟨g1, g2⟩ := pieces_good n xs ys hn k
    unfold piecesA stepA
    generalize diffA n (xs.getD k 0) (ys.getD k 0) = x at *
    generalize piecesA n xs ys k = s at *
    split
    · split
      · rename_i hs
        exact ⟨apart_snoc i1 (i2 hs), fun h => by simp [zeroR] at h⟩
      · rename_i hs
        exact ⟨i1, fun h => absurd h hs⟩
    · refine ⟨i1, fun _ p hp => ?_⟩
      have hk := good_y (g1 p hp)
      simp only
      split
      · rename_i hs
        have h1 := i2 hs p hp
        have h2 := good_y (g2 hs)
        rw [(both_y (a := s.2) (b := spanA x k) (by unfold spanA; simp only; omega) (by omega) (by unfold spanA; simp)).1]
        exact h1
      · unfold spanA; simp only; omega
theorem piecesF_apart (n : Nat) (xs ys : List Nat) (hn : n ≤ 64) : Apart (piecesF n xs ys) := by
  obtain ⟨h1, h2⟩ := pieces_apart n xs ys hn xs.length
  unfold piecesF closeA
  split
  · rename_i hs
    exact apart_snoc h1 (h2 hs)
  · exact h1
theorem join_apart {k : Int} {b : Nat} {rs : List R} (h : b + 2 ≤ rs.length) (hg : ∀ r ∈ rs, Good k r) (ha : Apart rs) : Apart (joinA rs b) := by
  obtain ⟨A, p, q, D, e1, _, e3⟩ := split_two h
  rw [e3]
  rw [e1] at ha hg
  unfold Apart at ha ⊢
  rw [List.pairwise_append, List.pairwise_cons, List.pairwise_cons] at ha
  obtain ⟨a1, ⟨a2, a3, a4⟩, a5⟩ := ha
  have hp := hg p (by simp)
  have hq := hg q (by simp)
  have hpq := a2 q (by simp)
  obtain ⟨y1, y2⟩ := both_y hpq (by have := hp.h; omega) (by have := hq.h; omega)
  rw [List.pairwise_append, List.pairwise_cons]
  refine ⟨a1, ⟨fun r hr => by rw [y2]; exact a3 r hr, a4⟩, fun r hr s hs => ?_⟩
  rcases List.mem_cons.1 hs with rfl | hs
  · rw [y1]; exact a5 r hr p (by simp)
  · exact a5 r hr s (by simp [hs])
/-- The pixels of some rectangles. -/
def areaL : List R → Int
  | [] => 0
  | r :: l => r.w * r.h + areaL l
theorem areaL_append (a b : List R) : areaL (a ++ b) = areaL a + areaL b := by
  induction a with
  | nil => simp [areaL]
  | cons r a ih => simp only [List.cons_append, areaL, ih]; omega
theorem area_bound {k : Int} (hk : k ≤ 64) : ∀ (l : List R), (∀ r ∈ l, Good k r) → (l.length : Int) ≤ areaL l ∧ areaL l ≤ 4096 * l.length
  | [], _ => by simp [areaL]
  | r :: l, h => by
    have ih := area_bound hk l (fun q hq => h q (List.mem_cons_of_mem _ hq))
    have := area_le (h r List.mem_cons_self) hk
    unfold areaR at this
    simp only [areaL, List.length_cons]
    omega
/-- Joining two that are apart takes no pixel away. -/
theorem both_area {k : Int} {p q : R} (hp : Good k p) (hq : Good k q) (h : p.y + p.h ≤ q.y) : p.w * p.h + q.w * q.h ≤ (bothR p q).w * (bothR p q).h := by
  obtain ⟨y1, y2⟩ := both_y h (by have := hp.h; omega) (by have := hq.h; omega)
  have hw1 : p.w ≤ (bothR p q).w := by have := hp.w; have := hq.w; unfold bothR mnI mxI; simp only; (repeat' split) <;> omega
  have hw2 : q.w ≤ (bothR p q).w := by have := hp.w; have := hq.w; unfold bothR mnI mxI; simp only; (repeat' split) <;> omega
  have hh : p.h + q.h ≤ (bothR p q).h := by omega
  generalize bothR p q = c at *
  have h1 : p.w * p.h ≤ c.w * p.h := Int.mul_le_mul_of_nonneg_right hw1 (by have := hp.h; omega)
  have h2 : q.w * q.h ≤ c.w * q.h := Int.mul_le_mul_of_nonneg_right hw2 (by have := hq.h; omega)
  have h3 : c.w * (p.h + q.h) ≤ c.w * c.h := Int.mul_le_mul_of_nonneg_left hh (by have := hp.w; omega)
  rw [Int.mul_add] at h3
  omega
theorem join_area {k : Int} {b : Nat} {rs : List R} (h : b + 2 ≤ rs.length) (hg : ∀ r ∈ rs, Good k r) (ha : Apart rs) : areaL rs ≤ areaL (joinA rs b) := by
  obtain ⟨A, p, q, D, e1, _, e3⟩ := split_two h
  rw [e3, e1]
  rw [e1] at ha hg
  unfold Apart at ha
  rw [List.pairwise_append, List.pairwise_cons] at ha
  have hpq := ha.2.1.1 q (by simp)
  have := both_area (hg p (by simp)) (hg q (by simp)) hpq
  rw [areaL_append, areaL_append]
  simp only [areaL]
  omega
/-- One rectangle fewer: one join more, or none. -/
theorem thin_next {init : Int} (many : Nat) (hm : 1 ≤ many) : ∀ (f : Nat) (rs : List R), rs.length ≤ f + many → thinA init many f rs = thinA init (many + 1) f rs ∨ (2 ≤ (thinA init (many + 1) f rs).length ∧ thinA init many f rs = joinA (thinA init (many + 1) f rs) (bestA init (thinA init (many + 1) f rs) ((thinA init (many + 1) f rs).length - 1)).1)
  | 0, rs, h => .inl rfl
  | f + 1, rs, h => by
    by_cases h1 : many + 1 < rs.length
    · have e1 : thinA init many (f + 1) rs = thinA init many f (joinA rs (bestA init rs (rs.length - 1)).1) := by rw [thinA, if_pos (by omega)]
      have e2 : thinA init (many + 1) (f + 1) rs = thinA init (many + 1) f (joinA rs (bestA init rs (rs.length - 1)).1) := by rw [thinA, if_pos h1]
      rw [e1, e2]
      exact thin_next many hm f _ (by rw [joinA_length (best_le2 init rs (by omega))]; omega)
    · have e2 : thinA init (many + 1) (f + 1) rs = rs := by rw [thinA, if_neg h1]
      rw [e2]
      by_cases h2 : many < rs.length
      · right
        refine ⟨by omega, ?_⟩
        rw [thinA, if_pos h2]
        have hl := joinA_length (best_le2 init rs (by omega))
        cases f with
        | zero => rfl
        | succ f => rw [thinA, if_neg (by omega)]
      · left
        rw [thinA, if_neg h2]
theorem thin_area {k init : Int} {rs : List R} (many : Nat) (hm : 1 ≤ many) (f : Nat) (hl : rs.length ≤ f + many) (hg : ∀ r ∈ rs, Good k r) (ha : Apart rs) : areaL (thinA init (many + 1) f rs) ≤ areaL (thinA init many f rs) := by
  have hP := thin_all (P := fun l => (∀ r ∈ l, Good k r) ∧ Apart l) (init := init) (many + 1) (by omega) (fun l b hb h => ⟨join_good hb h.1, join_apart hb h.1 h.2⟩) f rs ⟨hg, ha⟩
  rcases thin_next (init := init) many hm f rs hl with e | ⟨h2, e⟩
  · rw [e]; exact Int.le_refl _
  · rw [e]
    exact join_area (best_le2 init _ h2) hP.1 hP.2
theorem plan_area {n many : Nat} {xs ys : List Nat} (h1 : 1 ≤ n) (h2 : n ≤ 64) (h3 : xs.length = ys.length) (h4 : xs.length ≤ 64) (h5 : 1 ≤ many) : areaL (planA n (many + 1 : Nat) xs ys) ≤ areaL (planA n many xs ys) := by
  have hlen : (piecesF n xs ys).length ≤ 65 + many := by
    have := (piecesF_spec n xs ys h2).1
    omega
  unfold planA
  rw [if_pos ⟨by omega, by omega, h3, h4, by omega⟩, if_pos ⟨by omega, by omega, h3, h4, by omega⟩]
  simp only [Int.toNat_natCast]
  exact thin_area many h5 65 hlen (piecesF_good n xs ys h2) (piecesF_apart n xs ys h2)
theorem plan_area_le {n many : Nat} {xs ys : List Nat} (h1 : 1 ≤ n) (h2 : n ≤ 64) (h3 : xs.length = ys.length) (h4 : xs.length ≤ 64) (h5 : 1 ≤ many) : 0 ≤ areaL (planA n many xs ys) ∧ areaL (planA n many xs ys) ≤ 4096 * many := by
  obtain ⟨hp, hl⟩ := planA_of h1 h2 h3 h4 h5
  have := area_bound (k := xs.length) (by omega) (planA n many xs ys) hp.good
  omega
theorem diff_self (n a : Nat) : diffA n a a = 0 := by unfold diffA; rw [Nat.xor_self, Nat.zero_and]
theorem pieces_self (n : Nat) (xs : List Nat) : ∀ k, piecesA n xs xs k = ([], zeroR)
  | 0 => rfl
  | k + 1 => by
    unfold piecesA stepA
    rw [pieces_self n xs k, diff_self, if_pos rfl]
    rfl
theorem thin_short {init : Int} {many : Nat} {rs : List R} (h : rs.length ≤ many) : ∀ f, thinA init many f rs = rs
  | 0 => rfl
  | f + 1 => by rw [thinA, if_neg (by omega)]
/-- The area is 0 where the pages are one, and only there. -/
theorem plan_zero {n many : Nat} {xs ys : List Nat} (h1 : 1 ≤ n) (h2 : n ≤ 64) (h3 : xs.length = ys.length) (h4 : xs.length ≤ 64) (h5 : 1 ≤ many) (hx : ∀ x ∈ xs, x < 2 ^ n) (hy : ∀ y ∈ ys, y < 2 ^ n) : areaL (planA n many xs ys) = 0 ↔ xs = ys := by
  constructor
  · intro h
    obtain ⟨hp, _⟩ := planA_of h1 h2 h3 h4 h5
    have hb := area_bound (k := xs.length) (by omega) (planA n many xs ys) hp.good
    have hnil : planA n many xs ys = [] := List.eq_nil_of_length_eq_zero (by omega)
    refine rows_eq h3 fun j i hj => ?_
    by_cases hi : i < n
    · by_cases hd : (xs.getD j 0).testBit i = (ys.getD j 0).testBit i
      · exact hd
      · obtain ⟨r, hr, _⟩ := hp.cov j i hj hi hd
        rw [hnil] at hr
        cases hr
    · rw [bit_lt (getD_small hx j) (by omega), bit_lt (getD_small hy j) (by omega)]
  · intro h
    subst h
    unfold planA piecesF closeA
    rw [if_pos ⟨by omega, by omega, rfl, h4, by omega⟩, Int.toNat_natCast, pieces_self, if_neg (by decide), thin_short (by simp)]
    rfl
/-- One pixel that differs. -/
theorem diff_one {n i x : Nat} (hi : i < n) : diffA n x (x ^^^ 2 ^ i) = 2 ^ i := by
  refine Nat.eq_of_testBit_eq fun j => ?_
  rw [diff_bit, Nat.testBit_xor, Nat.testBit_two_pow]
  by_cases hj : i = j
  · subst hj; rw [decide_eq_true hi]; simp
  · rw [decide_eq_false hj]; simp
theorem span_one {i k : Nat} (hi : i < 64) : spanA (2 ^ i) k = ⟨i, k, 1, 1⟩ := by
  have hlt : 2 ^ i < 18446744073709551616 := show 2 ^ i < 2 ^ 64 from Nat.pow_lt_pow_right (by omega) hi
  have T := span_tight hlt (Nat.ne_of_gt (Nat.two_pow_pos i)) k
  have T2 : Tight (2 ^ i) (i : Int) 1 := ⟨by omega, by omega, by rw [Int.toNat_natCast]; exact Nat.testBit_two_pow_self, by rw [show ((i : Int) + 1 - 1).toNat = i by omega]; exact Nat.testBit_two_pow_self, fun j hj => by rw [Nat.testBit_two_pow] at hj; have := of_decide_eq_true hj; omega⟩
  obtain ⟨e1, e2⟩ := T.same T2
  have e3 : (spanA (2 ^ i) k).y = k ∧ (spanA (2 ^ i) k).h = 1 := ⟨rfl, rfl⟩
  generalize spanA (2 ^ i) k = s at *
  obtain ⟨a, b, c, d⟩ := s
  simp only at e1 e2 e3
  rw [e1, e2, e3.1, e3.2]
theorem pieces_one {n i k x : Nat} {xs : List Nat} (hn : n ≤ 64) (hi : i < n) (hx : xs[k]? = some x) : ∀ t, piecesA n xs (xs.set k (x ^^^ 2 ^ i)) t = if t ≤ k then ([], zeroR) else if t = k + 1 then ([], ⟨i, k, 1, 1⟩) else ([⟨i, k, 1, 1⟩], zeroR)
  | 0 => by rw [if_pos (Nat.zero_le _)]; rfl
  | t + 1 => by
    have hk : k < xs.length := (List.getElem?_eq_some_iff.1 hx).1
    unfold piecesA
    rw [pieces_one hn hi hx t]
    by_cases h1 : t = k
    · subst h1
      rw [if_pos (Nat.le_refl _), if_neg (by omega), if_pos rfl]
      have e1 : xs.getD t 0 = x := getD_of hx
      have e2 : (xs.set t (x ^^^ 2 ^ i)).getD t 0 = x ^^^ 2 ^ i := by rw [List.getD_eq_getElem?_getD, List.getElem?_set_self hk]; rfl
      unfold stepA
      rw [e1, e2, diff_one hi, if_neg (Nat.ne_of_gt (Nat.two_pow_pos i)), span_one (by omega)]
      rfl
    · have e : xs.getD t 0 = (xs.set k (x ^^^ 2 ^ i)).getD t 0 := by rw [List.getD_eq_getElem?_getD, List.getD_eq_getElem?_getD, List.getElem?_set_ne (fun h => h1 h.symm)]
      unfold stepA
      rw [← e, diff_self, if_pos rfl]
      by_cases h2 : t < k
      · rw [if_pos (show t ≤ k by omega), if_pos (show t + 1 ≤ k by omega)]; rfl
      · rw [if_neg (show ¬ t ≤ k by omega), if_neg (show ¬ t + 1 ≤ k by omega), if_neg (show ¬ t + 1 = k + 1 by omega)]
        by_cases h3 : t = k + 1
        · rw [if_pos h3]; rfl
        · rw [if_neg h3]; rfl
theorem plan_one {n i k x many : Nat} {xs : List Nat} (h1 : 1 ≤ n) (h2 : n ≤ 64) (h4 : xs.length ≤ 64) (h5 : 1 ≤ many) (hi : i < n) (hx : xs[k]? = some x) : planA n many xs (xs.set k (x ^^^ 2 ^ i)) = [⟨i, k, 1, 1⟩] := by
  have hk : k < xs.length := (List.getElem?_eq_some_iff.1 hx).1
  have hp : piecesF n xs (xs.set k (x ^^^ 2 ^ i)) = [⟨i, k, 1, 1⟩] := by
    unfold piecesF closeA
    rw [pieces_one h2 hi hx, if_neg (show ¬ xs.length ≤ k by omega)]
    by_cases h : xs.length = k + 1
    · rw [if_pos h]; rfl
    · rw [if_neg h]; rfl
  unfold planA
  rw [if_pos ⟨by omega, by omega, by simp, h4, by omega⟩, Int.toNat_natCast, Int.toNat_natCast, hp, thin_short (by simpa using h5)]
end Go.Proofs.YtmmcadbkmfjcbaaDoor
