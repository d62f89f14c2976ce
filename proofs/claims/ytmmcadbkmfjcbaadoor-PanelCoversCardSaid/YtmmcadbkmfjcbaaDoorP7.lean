/-
  What is left of two pages' difference behind some rectangles.
-/
import Derived.Test.YtmmcadbkmfjcbaaDoorP6
namespace Go.Proofs.YtmmcadbkmfjcbaaDoor

/-- Rows whose pixels are those that differ and are not yet done. -/
structure Rest (xs ys rest : List Nat) (Q : Nat → Nat → Prop) : Prop where
  len : rest.length = xs.length
  bit : ∀ j i, j < xs.length → ((rest.getD j 0).testBit i = true ↔ Differ xs ys j i ∧ ¬ Q j i)
theorem Rest.eqv {xs ys rest : List Nat} {Q Q' : Nat → Nat → Prop} (h : Rest xs ys rest Q) (e : ∀ j i, j < xs.length → (Q j i ↔ Q' j i)) : Rest xs ys rest Q' :=
  ⟨h.len, fun j i hj => by rw [h.bit j i hj, e j i hj]⟩
/-- One row of a rectangle is done. -/
theorem Rest.row {xs ys rest : List Nat} {Q : Nat → Nat → Prop} {k X w z : Nat} (h : Rest xs ys rest Q) (hk : k < xs.length) (hz : ∀ i, z.testBit i = ((rest.getD k 0).testBit i && !decide (X ≤ i ∧ i < X + w))) : Rest xs ys (rest.set k z) (fun j i => Q j i ∨ (j = k ∧ X ≤ i ∧ i < X + w)) := by
  refine ⟨by rw [List.length_set, h.len], fun j i hj => ?_⟩
  by_cases hjk : j = k
  · subst hjk
    have e : (rest.set j z).getD j 0 = z := by rw [List.getD_eq_getElem?_getD, List.getElem?_set_self (by rw [h.len]; exact hk)]; rfl
    rw [e, hz]
    have hb := h.bit j i hj
    simp only [Bool.and_eq_true, Bool.not_eq_true', decide_eq_false_iff_not]
    rw [hb]
    constructor
    · rintro ⟨⟨h1, h2⟩, h3⟩
      exact ⟨h1, fun hq => hq.elim h2 (fun hq => h3 hq.2)⟩
    · rintro ⟨h1, h2⟩
      exact ⟨⟨h1, fun hq => h2 (.inl hq)⟩, fun hq => h2 (.inr ⟨by trivial, hq⟩)⟩
  · have e : (rest.set k z).getD j 0 = rest.getD j 0 := by rw [List.getD_eq_getElem?_getD, List.getD_eq_getElem?_getD, List.getElem?_set_ne (fun h => hjk h.symm)]
    rw [e, h.bit j i hj]
    constructor
    · rintro ⟨h1, h2⟩
      exact ⟨h1, fun hq => hq.elim h2 (fun hq => hjk hq.1)⟩
    · rintro ⟨h1, h2⟩
      exact ⟨h1, fun hq => h2 (.inl hq)⟩
/-- All is done: nothing is left. -/
theorem Rest.none {n : Nat} {xs ys rest : List Nat} {Q : Nat → Nat → Prop} (h : Rest xs ys rest Q) (hx : ∀ x ∈ xs, x < 2 ^ n) (hy : ∀ y ∈ ys, y < 2 ^ n) (hQ : ∀ j i, j < xs.length → i < n → Differ xs ys j i → Q j i) : rest = List.replicate xs.length 0 := by
  refine rows_eq (by rw [h.len, List.length_replicate]) fun j i hj => ?_
  rw [h.len] at hj
  have e : (List.replicate xs.length 0).getD j 0 = 0 := by rw [List.getD_eq_getElem?_getD, List.getElem?_replicate, if_pos hj]; rfl
  rw [e, Nat.zero_testBit]
  cases hb : (rest.getD j 0).testBit i with
  | false => rfl
  | true =>
    obtain ⟨h1, h2⟩ := (h.bit j i hj).1 hb
    by_cases hi : i < n
    · exact absurd (hQ j i hj hi h1) h2
    · exfalso
      apply h1
      rw [bit_lt (getD_small hx j) (by omega), bit_lt (getD_small hy j) (by omega)]
/-- The beginning: all that differs. -/
theorem Rest.start {xs ys rest : List Nat} (hl : rest.length = xs.length) (h : ∀ j, j < xs.length → rest.getD j 0 = xs.getD j 0 ^^^ ys.getD j 0) : Rest xs ys rest (fun _ _ => False) := by
  refine ⟨hl, fun j i hj => ?_⟩
  rw [h j hj, Nat.testBit_xor]
  unfold Differ
  cases (xs.getD j 0).testBit i <;> cases (ys.getD j 0).testBit i <;> simp
end Go.Proofs.YtmmcadbkmfjcbaaDoor
