/-
  The pieces in which two drawings differ, as a law on lists.
-/
import Derived.Test.YtmmcadbkmfjcbaaDoorB0
import Derived.Lib.ItoaNum
namespace Go.Proofs.YtmmcadbkmfjcbaaDoor
open Go.RowKit

/-- What differs in a row, of its first n pixels. -/
def diffA (n a b : Nat) : Nat := (a ^^^ b) &&& (2 ^ n - 1)
def spanA (x k : Nat) : R := ⟨Lib.ctz 64 x, k, (Lib.bitLen x : Int) - Lib.ctz 64 x, 1⟩
def zeroR : R := ⟨0, 0, 0, 0⟩
def stepA (n a b k : Nat) (s : List R × R) : List R × R :=
  if diffA n a b = 0 then (if 0 < s.2.h then (s.1 ++ [s.2], zeroR) else s)
  else (s.1, if 0 < s.2.h then bothR s.2 (spanA (diffA n a b) k) else spanA (diffA n a b) k)
def piecesA (n : Nat) (xs ys : List Nat) : Nat → List R × R
  | 0 => ([], zeroR)
  | k + 1 => stepA n (xs.getD k 0) (ys.getD k 0) k (piecesA n xs ys k)
def closeA (s : List R × R) : List R := if 0 < s.2.h then s.1 ++ [s.2] else s.1
def piecesF (n : Nat) (xs ys : List Nat) : List R := closeA (piecesA n xs ys xs.length)

theorem diffA_mod (n a b : Nat) : diffA n a b = (a ^^^ b) % 2 ^ n := Nat.and_two_pow_sub_one_eq_mod _ _
theorem diffA_lt (n a b : Nat) (hn : n ≤ 64) : diffA n a b < 18446744073709551616 := by
  rw [diffA_mod]
  exact Nat.lt_of_lt_of_le (Nat.mod_lt _ (Nat.two_pow_pos _)) (show 2 ^ n ≤ 2 ^ 64 from Nat.pow_le_pow_right (by omega) hn)

/-- A rectangle within the first k rows. -/
def okR (k : Int) (c : R) : Prop := 0 ≤ c.x ∧ 0 ≤ c.w ∧ c.x + c.w ≤ 64 ∧ 0 ≤ c.y ∧ 0 ≤ c.h ∧ c.y + c.h ≤ k
theorem okR.small {k : Int} {c : R} (h : okR k c) (hk : k ≤ 1000) : c.small := by
  obtain ⟨h1, h2, h3, h4, h5, h6⟩ := h
  unfold R.small
  omega
theorem okR.mono {k k' : Int} {c : R} (h : okR k c) (hk : k ≤ k') : okR k' c := by
  obtain ⟨h1, h2, h3, h4, h5, h6⟩ := h
  exact ⟨h1, h2, h3, h4, h5, by omega⟩
theorem okR_both {k : Int} {a b : R} (ha : okR k a) (hb : okR k b) : okR k (bothR a b) := by
  obtain ⟨a1, a2, a3, a4, a5, a6⟩ := ha
  obtain ⟨b1, b2, b3, b4, b5, b6⟩ := hb
  unfold okR bothR mnI mxI
  refine ⟨?_, ?_, ?_, ?_, ?_, ?_⟩ <;> simp only <;> (repeat' split) <;> omega
theorem span_bounds (x : Nat) (hx : x < 18446744073709551616) (h0 : x ≠ 0) : Lib.ctz 64 x < Lib.bitLen x ∧ Lib.bitLen x ≤ 64 := by
  obtain ⟨h1, h2, h3⟩ := Lib.bitLenAux_bounds 64 x hx h0
  change 1 ≤ Lib.bitLen x at h1
  change 2 ^ (Lib.bitLen x - 1) ≤ x at h2
  change x < 2 ^ Lib.bitLen x at h3
  obtain ⟨m, hm, _⟩ := Lib.ctzFrom_spec 64 x (by omega) hx
  have hc : Lib.ctz 64 x = Lib.ctzFrom 64 x := by unfold Lib.ctz; rw [if_neg h0]
  rw [hc]
  generalize Lib.ctzFrom 64 x = c at *
  constructor
  · by_cases hlt : c < Lib.bitLen x
    · exact hlt
    · have : 2 ^ Lib.bitLen x ≤ 2 ^ c := Nat.pow_le_pow_right (by omega) (by omega)
      have h4 : 2 ^ c * 1 ≤ 2 ^ c * (2 * m + 1) := Nat.mul_le_mul_left _ (by omega)
      omega
  · by_cases hlt : Lib.bitLen x ≤ 64
    · exact hlt
    · have : (2 : Nat) ^ 64 ≤ 2 ^ (Lib.bitLen x - 1) := Nat.pow_le_pow_right (by omega) (by omega)
      omega
theorem okR_span {x : Nat} (hx : x < 18446744073709551616) (h0 : x ≠ 0) (k : Nat) : okR (k + 1) (spanA x k) := by
  obtain ⟨h1, h2⟩ := span_bounds x hx h0
  unfold okR spanA
  refine ⟨?_, ?_, ?_, ?_, ?_, ?_⟩ <;> simp only <;> omega

theorem piecesA_spec (n : Nat) (xs ys : List Nat) (hn : n ≤ 64) : ∀ k, (piecesA n xs ys k).1.length ≤ k ∧ (∀ r ∈ (piecesA n xs ys k).1, okR k r) ∧ okR k (piecesA n xs ys k).2
  | 0 => by simp [piecesA, okR, zeroR]
  | k + 1 => by
    obtain ⟨h1, h2, h3⟩ := piecesA_spec n xs ys hn k
    unfold piecesA stepA
    have hlt := diffA_lt n (xs.getD k 0) (ys.getD k 0) hn
    generalize diffA n (xs.getD k 0) (ys.getD k 0) = x at *
    generalize piecesA n xs ys k = s at *
    have m2 : ∀ r ∈ s.1, okR ((k + 1 : Nat) : Int) r := fun r hr => (h2 r hr).mono (by omega)
    have m3 : okR ((k + 1 : Nat) : Int) s.2 := h3.mono (by omega)
    split
    · split
      · refine ⟨by simp; omega, ?_, ?_⟩
        · intro r hr
          rcases List.mem_append.1 hr with h | h
          · exact m2 r h
          · simp at h; rw [h]; exact m3
        · unfold okR zeroR; simp only; omega
      · exact ⟨by omega, m2, m3⟩
    · rename_i hx0
      refine ⟨by simp only; omega, m2, ?_⟩
      have hs : okR ((k + 1 : Nat) : Int) (spanA x k) := by have := okR_span hlt hx0 k; simpa using this
      simp only
      split
      · exact okR_both m3 hs
      · exact hs
theorem piecesF_spec (n : Nat) (xs ys : List Nat) (hn : n ≤ 64) : (piecesF n xs ys).length ≤ xs.length + 1 ∧ ∀ r ∈ piecesF n xs ys, okR xs.length r := by
  obtain ⟨h1, h2, h3⟩ := piecesA_spec n xs ys hn xs.length
  unfold piecesF closeA
  split
  · refine ⟨by simp; omega, ?_⟩
    intro r hr
    rcases List.mem_append.1 hr with h | h
    · exact h2 r h
    · simp at h; rw [h]; exact h3
  · exact ⟨by omega, h2⟩

end Go.Proofs.YtmmcadbkmfjcbaaDoor
