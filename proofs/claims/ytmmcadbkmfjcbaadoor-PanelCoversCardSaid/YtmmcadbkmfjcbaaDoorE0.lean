/-
  Panels in plain lists: what writing does.
-/
import Derived.Test.YtmmcadbkmfjcbaaDoorC5
namespace Go.Proofs.YtmmcadbkmfjcbaaDoor

theorem bit_shl (a X i : Nat) : (a * 2 ^ X).testBit i = (decide (X ≤ i) && a.testBit (i - X)) := by
  rw [Nat.mul_comm, Nat.testBit_two_pow_mul]
theorem bit_mask (W i : Nat) : (2 ^ W - 1).testBit i = decide (i < W) := Nat.testBit_two_pow_sub_one W i
theorem bit_lt {x W i : Nat} (h : x < 2 ^ W) (hi : W ≤ i) : x.testBit i = false := Nat.testBit_lt_two_pow (Nat.lt_of_lt_of_le h (Nat.pow_le_pow_right (by omega) hi))

/-- A row into which W pixels are written, from X on. -/
def putX (X W y x : Nat) : Nat := (y ^^^ (y &&& ((2 ^ W - 1) * 2 ^ X))) ||| (x * 2 ^ X)
theorem putX_bit {X W y x : Nat} (hx : x < 2 ^ W) (i : Nat) : (putX X W y x).testBit i = if X ≤ i ∧ i < X + W then x.testBit (i - X) else y.testBit i := by
  unfold putX
  rw [Nat.testBit_or, Nat.testBit_xor, Nat.testBit_and, bit_shl, bit_shl, bit_mask]
  by_cases h1 : X ≤ i
  · by_cases h2 : i < X + W
    · rw [if_pos ⟨h1, h2⟩]
      have h3 : i - X < W := by omega
      simp [h1, h3]
    · rw [if_neg (by omega)]
      have h3 : ¬ i - X < W := by omega
      rw [bit_lt hx (show W ≤ i - X by omega)]
      simp [h3]
  · rw [if_neg (by omega)]
    simp [h1]
theorem putX_lt {X W y x : Nat} (hx : x < 2 ^ W) (hy : y < 18446744073709551616) (h : X + W ≤ 64) : putX X W y x < 18446744073709551616 := by
  have : putX X W y x < 2 ^ 64 := by
    refine Nat.lt_pow_two_of_testBit _ fun i hi => ?_
    rw [putX_bit hx, if_neg (by omega)]
    exact Nat.testBit_lt_two_pow (Nat.lt_of_lt_of_le hy (Nat.pow_le_pow_right (n := 2) (i := 64) (by omega) hi))
  exact this
theorem putX_zero (X y : Nat) : putX X 0 y 0 = y := by
  apply Nat.eq_of_testBit_eq
  intro i
  rw [putX_bit (by omega), if_neg (by omega)]
theorem putX_step (X y x i : Nat) : withB (putX X i y (x % 2 ^ i)) (X + i) (x.testBit i) = putX X (i + 1) y (x % 2 ^ (i + 1)) := by
  apply Nat.eq_of_testBit_eq
  intro j
  have h1 : x % 2 ^ i < 2 ^ i := Nat.mod_lt _ (Nat.two_pow_pos _)
  have h2 : x % 2 ^ (i + 1) < 2 ^ (i + 1) := Nat.mod_lt _ (Nat.two_pow_pos _)
  rw [withB_bit, putX_bit h1, putX_bit h2, Nat.testBit_mod_two_pow, Nat.testBit_mod_two_pow]
  by_cases hj : j = X + i
  · subst hj
    rw [if_pos rfl, if_pos (by omega)]
    simp
  · rw [if_neg hj]
    by_cases h3 : X ≤ j ∧ j < X + i
    · rw [if_pos h3, if_pos (by omega)]
      have h4 : j - X < i := by omega
      have h5 : j - X < i + 1 := by omega
      simp [h4, h5]
    · rw [if_neg h3, if_neg (by omega)]

/-- The first k rows are written. -/
def putN (X Y W : Nat) (xs rows : List Nat) : Nat → List Nat
  | 0 => rows
  | k + 1 => (putN X Y W xs rows k).set (Y + k) (putX X W ((putN X Y W xs rows k).getD (Y + k) 0) (xs.getD k 0))
theorem putN_length (X Y W : Nat) (xs rows : List Nat) : ∀ k, (putN X Y W xs rows k).length = rows.length
  | 0 => rfl
  | k + 1 => by rw [putN, List.length_set, putN_length]
theorem getD_set (l : List Nat) (k x j : Nat) (h : k < l.length) : (l.set k x).getD j 0 = if j = k then x else l.getD j 0 := by
  rw [List.getD_eq_getElem?_getD, List.getD_eq_getElem?_getD, List.getElem?_set]
  by_cases hj : k = j
  · subst hj; simp [h]
  · rw [if_neg hj, if_neg (fun h => hj h.symm)]
theorem getD_lt {xs : List Nat} (h : U64 xs) (k : Nat) : xs.getD k 0 < 18446744073709551616 := by
  rw [List.getD_eq_getElem?_getD]
  cases hk : xs[k]? with
  | none => simp
  | some x => exact h.at hk
theorem putN_u64 {X Y W : Nat} {xs rows : List Nat} (hx : ∀ x ∈ xs, x < 2 ^ W) (hr : U64 rows) (h : X + W ≤ 64) : ∀ k, U64 (putN X Y W xs rows k)
  | 0 => hr
  | k + 1 => by
    have ih := putN_u64 (Y := Y) hx hr h k
    intro y hy
    rw [putN] at hy
    rcases List.mem_or_eq_of_mem_set hy with h1 | h1
    · exact ih y h1
    · rw [h1]
      refine putX_lt ?_ (getD_lt ih _) h
      rw [List.getD_eq_getElem?_getD]
      cases hk : xs[k]? with
      | none => simp; exact Nat.two_pow_pos _
      | some x => exact hx x (List.mem_of_getElem? hk)
theorem getD_small {xs : List Nat} {W : Nat} (hx : ∀ x ∈ xs, x < 2 ^ W) (k : Nat) : xs.getD k 0 < 2 ^ W := by
  rw [List.getD_eq_getElem?_getD]
  cases hk : xs[k]? with
  | none => simp; exact Nat.two_pow_pos _
  | some x => exact hx x (List.mem_of_getElem? hk)
/-- The pixels behind it. -/
theorem putN_bit {X Y W : Nat} {xs rows : List Nat} (hx : ∀ x ∈ xs, x < 2 ^ W) : ∀ k, Y + k ≤ rows.length → ∀ j i, ((putN X Y W xs rows k).getD j 0).testBit i = if (Y ≤ j ∧ j < Y + k) ∧ X ≤ i ∧ i < X + W then (xs.getD (j - Y) 0).testBit (i - X) else (rows.getD j 0).testBit i
  | 0, _, j, i => by rw [if_neg (by omega)]; rfl
  | k + 1, h, j, i => by
    have ih := putN_bit (X := X) (Y := Y) (rows := rows) hx k (by omega)
    rw [putN, getD_set _ _ _ _ (by rw [putN_length]; omega)]
    by_cases hj : j = Y + k
    · subst hj
      rw [if_pos rfl, putX_bit (getD_small hx k)]
      by_cases h2 : X ≤ i ∧ i < X + W
      · rw [if_pos h2, if_pos (by omega), show Y + k - Y = k by omega]
      · rw [if_neg h2, ih, if_neg (by omega), if_neg (by omega)]
    · rw [if_neg hj, ih]
      by_cases h2 : (Y ≤ j ∧ j < Y + k) ∧ X ≤ i ∧ i < X + W
      · rw [if_pos h2, if_pos (by omega)]
      · rw [if_neg h2, if_neg (by omega)]

structure Pan where
  w : Nat
  rows : List Nat
  failing : Bool
  left : Int
  many : Nat
structure Ref where
  w : Nat
  rows : List Nat
  left : Int
  many : Nat
/-- What may be written. -/
def validA (pw ph : Nat) (c : R) (xs : List Nat) : Bool := inB c pw ph && (decide ((xs.length : Int) = c.h) && xs.all fun x => decide (x < 2 ^ c.w.toNat))
/-- How many rows are written. -/
def countA (failing : Bool) (left : Int) (h : Nat) : Nat := if failing then min h left.toNat else h
def writeA (p : Pan) (c : R) (xs : List Nat) : Int × Pan :=
  if validA p.w p.rows.length c xs then
    (if countA p.failing p.left xs.length = xs.length then (0, ⟨p.w, putN c.x.toNat c.y.toNat c.w.toNat xs p.rows xs.length, p.failing, if p.failing then p.left - xs.length else p.left, p.many + 1⟩)
    else (52, ⟨p.w, putN c.x.toNat c.y.toNat c.w.toNat xs p.rows (countA p.failing p.left xs.length), p.failing, -1, p.many⟩))
  else (1, p)
def rwriteA (p : Ref) (c : R) (xs : List Nat) : Int × Ref :=
  if p.w ≠ 0 ∧ validA p.w p.rows.length c xs = true then
    (if countA (decide (0 ≤ p.left)) p.left xs.length = xs.length then (0, ⟨p.w, putN c.x.toNat c.y.toNat c.w.toNat xs p.rows xs.length, if 0 ≤ p.left then p.left - xs.length else p.left, p.many + 1⟩)
    else (52, ⟨p.w, putN c.x.toNat c.y.toNat c.w.toNat xs p.rows (countA (decide (0 ≤ p.left)) p.left xs.length), 0, p.many⟩))
  else (1, p)
def failA (p : Pan) (n : Int) : Pan := if 0 < p.w then ⟨p.w, p.rows, decide (0 ≤ n), n, p.many⟩ else p
def rfailA (p : Ref) (n : Int) : Ref := if p.w ≠ 0 then ⟨p.w, p.rows, mxI n (-1), p.many⟩ else p
/-- What both keep. -/
structure PanOK (p : Pan) : Prop where
  w : p.w ≤ 64
  h : p.rows.length ≤ 64
  u : U64 p.rows
  left : p.failing = true → -1 ≤ p.left
  l1 : -9223372036854775808 ≤ p.left
  l2 : p.left ≤ 9223372036854775807
  many : p.many ≤ 1000000
structure RefOK (p : Ref) : Prop where
  w : p.w ≤ 64
  h : p.rows.length ≤ 64
  u : U64 p.rows
  l1 : -1 ≤ p.left
  l2 : p.left ≤ 9223372036854775807
  many : p.many ≤ 1000000
end Go.Proofs.YtmmcadbkmfjcbaaDoor
