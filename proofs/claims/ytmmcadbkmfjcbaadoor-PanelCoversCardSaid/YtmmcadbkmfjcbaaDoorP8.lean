/-
  One row of a rectangle, its bits.
-/
import Derived.Test.YtmmcadbkmfjcbaaDoorP7
namespace Go.Proofs.YtmmcadbkmfjcbaaDoor

theorem cut_bit (X w x i : Nat) : (cutX X w x).testBit i = (decide (i < w) && x.testBit (X + i)) := by
  unfold cutX
  rw [Nat.testBit_mod_two_pow, Nat.testBit_div_two_pow, Nat.add_comm]
theorem lt_of_bits2 {x W : Nat} (h : ∀ i, W ≤ i → x.testBit i = false) : x < 2 ^ W := Nat.lt_pow_two_of_testBit x h
theorem bit_zero_none {z : Nat} (h : z = 0) (i : Nat) : z.testBit i = false := by rw [h, Nat.zero_testBit]
/-- What is seen joins what was seen. -/
theorem all_next {xs ys : List Nat} {Y X w kk all z : Nat} (hal : ∀ i, all.testBit i = true ↔ i < w ∧ ∃ j, Y ≤ j ∧ j < kk ∧ Differ xs ys j (X + i)) (hk : Y ≤ kk) (hz : ∀ i, z.testBit i = true ↔ i < w ∧ Differ xs ys kk (X + i)) :
    ∀ i, (all ||| z).testBit i = true ↔ i < w ∧ ∃ j, Y ≤ j ∧ j < kk + 1 ∧ Differ xs ys j (X + i) := by
  intro i
  rw [Nat.testBit_or, Bool.or_eq_true, hal, hz]
  constructor
  · rintro (⟨h1, j, h2, h3, h4⟩ | ⟨h1, h2⟩)
    · exact ⟨h1, j, h2, by omega, h4⟩
    · exact ⟨h1, kk, hk, by omega, h2⟩
  · rintro ⟨h1, j, h2, h3, h4⟩
    by_cases h : j = kk
    · right; rw [← h]; exact ⟨h1, h4⟩
    · left; exact ⟨h1, j, h2, by omega, h4⟩
theorem cutR_row {xs : List Nat} {X k w x : Nat} (h : xs[k]? = some x) (hw : 1 ≤ w) (hX : X + w ≤ 64) : cutR xs ⟨X, k, w, ((1 : Nat) : Int)⟩ = [cutX X w x] := by
  have hk : k < xs.length := (List.getElem?_eq_some_iff.1 h).1
  rw [cutR_eq (K := xs.length) (W := 64) (by omega) rfl hw (by omega) hX (by omega)]
  refine List.ext_getElem? fun i => ?_
  match i with
  | 0 =>
    have hl : (cutA xs X k w 1).length = 1 := cutA_length (by omega)
    have e := cut_at (ys := xs) (X := X) (Y := k) (w := w) (h' := 1) (k := 0) (by omega) (by omega)
    rw [Nat.add_zero, getD_of h] at e
    obtain ⟨c, hc⟩ := some_at (xs := cutA xs X k w 1) (k := 0) (n := 1) (by omega) hl
    rw [getD_of hc] at e
    rw [hc, e]
    rfl
  | i + 1 =>
    rw [List.getElem?_eq_none (by rw [cutA_length (by omega)]; omega)]
    rfl
theorem Rest.small {n : Nat} {xs ys rest : List Nat} {Q : Nat → Nat → Prop} (h : Rest xs ys rest Q) (hx : ∀ x ∈ xs, x < 2 ^ n) (hy : ∀ y ∈ ys, y < 2 ^ n) : ∀ x ∈ rest, x < 2 ^ n := by
  intro x hxm
  obtain ⟨j, hj, rfl⟩ := List.mem_iff_getElem.1 hxm
  refine lt_of_bits2 fun i hi => ?_
  have e : rest.getD j 0 = rest[j] := by rw [List.getD_eq_getElem?_getD, List.getElem?_eq_getElem hj]; rfl
  cases hb : rest[j].testBit i with
  | false => rfl
  | true =>
    rw [← e] at hb
    have hd := ((h.bit j i (by rw [← h.len]; exact hj)).1 hb).1
    exact absurd (by rw [bit_lt (getD_small hx j) (by omega), bit_lt (getD_small hy j) (by omega)]) hd
end Go.Proofs.YtmmcadbkmfjcbaaDoor
