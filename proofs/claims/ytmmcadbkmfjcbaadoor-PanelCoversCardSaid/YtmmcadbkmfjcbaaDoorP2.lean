/-
  A plan contains all that differs, and brings one page to another.
-/
import Derived.Test.YtmmcadbkmfjcbaaDoorP0
import Derived.Test.YtmmcadbkmfjcbaaDoorK1
namespace Go.Proofs.YtmmcadbkmfjcbaaDoor

def inR (r : R) (j i : Nat) : Prop := r.y ≤ j ∧ (j : Int) < r.y + r.h ∧ r.x ≤ i ∧ (i : Int) < r.x + r.w
instance (r : R) (j i : Nat) : Decidable (inR r j i) := by unfold inR; infer_instance
theorem inR_left {a b : R} {j i : Nat} (h : inR a j i) : inR (bothR a b) j i := by
  unfold inR at *
  unfold bothR mnI mxI
  simp only
  refine ⟨?_, ?_, ?_, ?_⟩ <;> (repeat' split) <;> omega
theorem inR_right {a b : R} {j i : Nat} (h : inR b j i) : inR (bothR a b) j i := by
  unfold inR at *
  unfold bothR mnI mxI
  simp only
  refine ⟨?_, ?_, ?_, ?_⟩ <;> (repeat' split) <;> omega
def Differ (xs ys : List Nat) (j i : Nat) : Prop := (xs.getD j 0).testBit i ≠ (ys.getD j 0).testBit i
def Cov (n k : Nat) (xs ys : List Nat) (l : List R) : Prop := ∀ j i, j < k → i < n → Differ xs ys j i → ∃ r ∈ l, inR r j i
/-- Within a width. -/
def Wide (n : Int) (r : R) : Prop := r.x + r.w ≤ n
theorem wide_both {n : Int} {a b : R} (ha : Wide n a) (hb : Wide n b) : Wide n (bothR a b) := by
  unfold Wide at *
  unfold bothR mnI mxI
  simp only
  (repeat' split) <;> omega
theorem span_wide {n a b k : Nat} (hn : n ≤ 64) (h : diffA n a b ≠ 0) : Wide n (spanA (diffA n a b) k) := by
  have T := span_tight (diffA_lt n a b hn) h k
  have h1 := T.last
  rw [diff_bit] at h1
  simp only [Bool.and_eq_true, decide_eq_true_eq] at h1
  have := T.x0
  have := T.w0
  unfold Wide
  omega
theorem pieces_wide (n : Nat) (xs ys : List Nat) (hn : n ≤ 64) : ∀ k, (∀ r ∈ (piecesA n xs ys k).1, Wide n r) ∧ (0 < (piecesA n xs ys k).2.h → Wide n (piecesA n xs ys k).2)
  | 0 => by simp [piecesA, zeroR]
  | k + 1 => by
    obtain ⟨h1, h2⟩ := pieces_wide n xs ys hn k
    unfold piecesA stepA
    generalize piecesA n xs ys k = s at *
    split
    · split
      · rename_i hs
        refine ⟨fun r hr => ?_, fun h => by simp [zeroR] at h⟩
        rcases List.mem_append.1 hr with h | h
        · exact h1 r h
        · simp at h; rw [h]; exact h2 hs
      · rename_i hs
        exact ⟨h1, fun h => absurd h hs⟩
    · rename_i hx0
      refine ⟨h1, fun _ => ?_⟩
      have hsp := span_wide (k := k) hn hx0
      simp only
      split
      · rename_i hs
        exact wide_both (h2 hs) hsp
      · exact hsp
theorem piecesF_wide (n : Nat) (xs ys : List Nat) (hn : n ≤ 64) : ∀ r ∈ piecesF n xs ys, Wide n r := by
  obtain ⟨h1, h2⟩ := pieces_wide n xs ys hn xs.length
  intro r hr
  unfold piecesF closeA at hr
  split at hr
  · rename_i hs
    rcases List.mem_append.1 hr with h | h
    · exact h1 r h
    · simp at h; rw [h]; exact h2 hs
  · exact h1 r hr
theorem pieces_cov (n : Nat) (xs ys : List Nat) (hn : n ≤ 64) : ∀ k, ∀ j i, j < k → i < n → Differ xs ys j i → (∃ r ∈ (piecesA n xs ys k).1, inR r j i) ∨ (0 < (piecesA n xs ys k).2.h ∧ inR (piecesA n xs ys k).2 j i)
  | 0 => by intro j i h; omega
  | k + 1 => by
    intro j i hj hi hd
    have ih := pieces_cov n xs ys hn k j i
    unfold piecesA stepA
    have hlt := diffA_lt n (xs.getD k 0) (ys.getD k 0) hn
    by_cases hjk : j = k
    · subst hjk
      have hb : (diffA n (xs.getD j 0) (ys.getD j 0)).testBit i = true := by
        rw [diff_bit, decide_eq_true hi]
        unfold Differ at hd
        revert hd
        cases (xs.getD j 0).testBit i <;> cases (ys.getD j 0).testBit i <;> simp
      have hne : diffA n (xs.getD j 0) (ys.getD j 0) ≠ 0 := fun h => by rw [h] at hb; simp at hb
      rw [if_neg hne]
      have T := (span_tight hlt hne j).all i hb
      have hin : inR (spanA (diffA n (xs.getD j 0) (ys.getD j 0)) j) j i := by
        unfold inR
        refine ⟨?_, ?_, T.1, T.2⟩ <;> unfold spanA <;> simp only <;> omega
      right
      simp only
      split
      · rename_i hs
        exact ⟨both_h hs (by unfold spanA; simp), inR_right hin⟩
      · exact ⟨by unfold spanA; simp, hin⟩
    · have h := ih (by omega) hi hd
      generalize piecesA n xs ys k = s at *
      by_cases hz : diffA n (xs.getD k 0) (ys.getD k 0) = 0
      · rw [if_pos hz]
        by_cases hs : 0 < s.2.h
        · rw [if_pos hs]
          left
          rcases h with ⟨r, hr, hin⟩ | ⟨_, hin⟩
          · exact ⟨r, List.mem_append.2 (.inl hr), hin⟩
          · exact ⟨s.2, List.mem_append.2 (.inr (by simp)), hin⟩
        · rw [if_neg hs]
          exact h
      · rw [if_neg hz]
        simp only
        rcases h with h | ⟨hs, hin⟩
        · exact .inl h
        · right
          rw [if_pos hs]
          exact ⟨both_h hs (by unfold spanA; simp), inR_left hin⟩
theorem piecesF_cov (n : Nat) (xs ys : List Nat) (hn : n ≤ 64) : Cov n xs.length xs ys (piecesF n xs ys) := by
  intro j i hj hi hd
  have h := pieces_cov n xs ys hn xs.length j i hj hi hd
  unfold piecesF closeA
  rcases h with ⟨r, hr, hin⟩ | ⟨hs, hin⟩
  · split
    · exact ⟨r, List.mem_append.2 (.inl hr), hin⟩
    · exact ⟨r, hr, hin⟩
  · rw [if_pos hs]
    exact ⟨_, List.mem_append.2 (.inr (by simp)), hin⟩
theorem split_two {rs : List R} {b : Nat} (h : b + 2 ≤ rs.length) : ∃ A p q D, rs = A ++ p :: q :: D ∧ A.length = b ∧ joinA rs b = A ++ bothR p q :: D := by
  obtain ⟨p, A, B, e1, e2⟩ := nth_split (xs := rs) (k := b) (by omega)
  cases B with
  | nil => rw [e1] at h; simp at h; omega
  | cons q D =>
    refine ⟨A, p, q, D, e1, e2, ?_⟩
    have hp : rs.getD b zeroR = p := by rw [List.getD_eq_getElem?_getD, e1, ← e2]; simp
    have hq : rs.getD (b + 1) zeroR = q := by rw [List.getD_eq_getElem?_getD, e1, ← e2]; simp
    unfold joinA
    rw [hp, hq, e1]
    have h1 := drop_two A D p q b e2
    rw [h1, ← e2]
    simp
theorem join_cov {n k b : Nat} {xs ys : List Nat} {rs : List R} (h : b + 2 ≤ rs.length) (hc : Cov n k xs ys rs) : Cov n k xs ys (joinA rs b) := by
  obtain ⟨A, p, q, D, e1, _, e3⟩ := split_two h
  intro j i hj hi hd
  obtain ⟨r, hr, hin⟩ := hc j i hj hi hd
  rw [e3]
  rw [e1] at hr
  simp only [List.mem_append, List.mem_cons] at hr ⊢
  rcases hr with h | rfl | rfl | h
  · exact ⟨r, .inl h, hin⟩
  · exact ⟨_, .inr (.inl rfl), inR_left hin⟩
  · exact ⟨_, .inr (.inl rfl), inR_right hin⟩
  · exact ⟨r, .inr (.inr h), hin⟩
theorem join_wide {n : Int} {b : Nat} {rs : List R} (h : b + 2 ≤ rs.length) (hc : ∀ r ∈ rs, Wide n r) : ∀ r ∈ joinA rs b, Wide n r := by
  obtain ⟨A, p, q, D, e1, _, e3⟩ := split_two h
  intro r hr
  rw [e3] at hr
  have hm : ∀ r, r ∈ A ∨ r = p ∨ r = q ∨ r ∈ D → Wide n r := fun r h => hc r (by rw [e1]; simpa using h)
  simp only [List.mem_append, List.mem_cons] at hr
  rcases hr with h | rfl | h
  · exact hm r (.inl h)
  · exact wide_both (hm p (.inr (.inl rfl))) (hm q (.inr (.inr (.inl rfl))))
  · exact hm r (.inr (.inr (.inr h)))
theorem thin_all {P : List R → Prop} {init : Int} (many : Nat) (hm : 1 ≤ many) (hj : ∀ rs b, b + 2 ≤ rs.length → P rs → P (joinA rs b)) : ∀ (f : Nat) (rs : List R), P rs → P (thinA init many f rs)
  | 0, _, h => h
  | f + 1, rs, h => by
    unfold thinA
    split
    · exact thin_all many hm hj f _ (hj _ _ (best_le2 _ rs (by omega)) h)
    · exact h
theorem thin_len {init : Int} (many : Nat) (hm : 1 ≤ many) : ∀ (f : Nat) (rs : List R), rs.length ≤ f + many → (thinA init many f rs).length ≤ many
  | 0, rs, h => by simpa [thinA] using h
  | f + 1, rs, h => by
    unfold thinA
    split
    · refine thin_len many hm f _ ?_
      rw [joinA_length (best_le2 _ rs (by omega))]
      omega
    · omega
/-- What is said of plans. -/
structure PlanOf (n : Nat) (xs ys : List Nat) (l : List R) : Prop where
  good : ∀ r ∈ l, Good xs.length r
  wide : ∀ r ∈ l, Wide n r
  cov : Cov n xs.length xs ys l
theorem planA_of {n many : Nat} {xs ys : List Nat} (h1 : 1 ≤ n) (h2 : n ≤ 64) (h3 : xs.length = ys.length) (h4 : xs.length ≤ 64) (h5 : 1 ≤ many) : PlanOf n xs ys (planA n many xs ys) ∧ (planA n many xs ys).length ≤ many := by
  unfold planA
  rw [if_pos ⟨by omega, by omega, h3, h4, by omega⟩]
  simp only [Int.toNat_natCast]
  have hl := (piecesF_spec n xs ys h2).1
  refine ⟨?_, thin_len many h5 65 _ (by omega)⟩
  have := thin_all (P := PlanOf n xs ys) (init := 4096) many h5 (fun rs b hb hP => ⟨join_good hb hP.good, join_wide hb hP.wide, join_cov hb hP.cov⟩) 65 _ ⟨piecesF_good n xs ys h2, piecesF_wide n xs ys h2, piecesF_cov n xs ys h2⟩
  exact this
end Go.Proofs.YtmmcadbkmfjcbaaDoor
