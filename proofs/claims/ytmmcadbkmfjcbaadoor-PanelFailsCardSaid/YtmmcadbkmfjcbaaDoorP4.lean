/-
  Writes that fail: between two pages.
-/
import Derived.Test.YtmmcadbkmfjcbaaDoorP3
namespace Go.Proofs.YtmmcadbkmfjcbaaDoor

/-- Rows between two pages. -/
structure Mid (xs ys rows : List Nat) : Prop where
  len : rows.length = ys.length
  bit : ∀ j i, (rows.getD j 0).testBit i = (xs.getD j 0).testBit i ∨ (rows.getD j 0).testBit i = (ys.getD j 0).testBit i
theorem Mid.start {xs ys : List Nat} (h : xs.length = ys.length) : Mid xs ys xs := ⟨h, fun _ _ => .inl rfl⟩
theorem putPart_bit {W K : Nat} {ys rows : List Nat} {r : R} (hW : W ≤ 64) (hK : ys.length = K) (hr : rows.length = K) (hf : Fits W K r) (c : Nat) (hc : c ≤ r.h.toNat) (j i : Nat) : ((putN r.x.toNat r.y.toNat r.w.toNat (cutR ys r) rows c).getD j 0).testBit i = (ys.getD j 0).testBit i ∨ ((putN r.x.toNat r.y.toNat r.w.toNat (cutR ys r) rows c).getD j 0).testBit i = (rows.getD j 0).testBit i := by
  obtain ⟨X, Y, w, h', rfl, h1, h2, h3, h4⟩ := hf.nat
  rw [cutR_eq hW hK h1 h2 h3 h4]
  simp only [Int.toNat_natCast] at hc ⊢
  rw [putN_bit cut_small c (by omega)]
  by_cases hin : (Y ≤ j ∧ j < Y + c) ∧ X ≤ i ∧ i < X + w
  · left
    rw [if_pos hin, cut_at (by omega) (by omega), show Y + (j - Y) = j by omega]
    unfold cutX
    rw [Nat.testBit_mod_two_pow, decide_eq_true (show i - X < w by omega), Bool.true_and, Nat.testBit_div_two_pow, show i - X + X = i by omega]
  · right
    rw [if_neg hin]
theorem Mid.part {W : Nat} {xs ys rows : List Nat} {r : R} (h : Mid xs ys rows) (hW : W ≤ 64) (hf : Fits W ys.length r) (c : Nat) (hc : c ≤ r.h.toNat) : Mid xs ys (putN r.x.toNat r.y.toNat r.w.toNat (cutR ys r) rows c) := by
  refine ⟨by rw [putN_length, h.len], fun j i => ?_⟩
  rcases putPart_bit hW rfl h.len hf c hc j i with e | e
  · exact .inr e
  · rw [e]; exact h.bit j i
theorem write_part {W m : Nat} {l : Int} {xs ys rows : List Nat} {r : R} (hW : W ≤ 64) (h : Mid xs ys rows) (hf : Fits W ys.length r) :
    ∃ rows', Mid xs ys rows' ∧ (r.h ≤ l → writeA ⟨W, rows, true, l, m⟩ r (cutR ys r) = (0, ⟨W, rows', true, l - r.h, m + 1⟩)) ∧ (¬ r.h ≤ l → writeA ⟨W, rows, true, l, m⟩ r (cutR ys r) = (52, ⟨W, rows', true, -1, m⟩)) := by
  obtain ⟨h1, h2⟩ := write_rect hW rfl h.len hf
  have hh : 1 ≤ r.h := hf.good.h
  refine ⟨_, h.part hW hf (countA true l r.h.toNat) (by unfold countA; rw [if_pos rfl]; exact Nat.min_le_left _ _), fun hl => ?_, fun hl => ?_⟩
  · have hc : countA true l r.h.toNat = r.h.toNat := by unfold countA; rw [if_pos rfl]; omega
    unfold writeA
    rw [if_pos h1]
    simp only [h2, hc, if_true]
    rw [Int.toNat_of_nonneg (by omega)]
  · have hc : countA true l r.h.toNat ≠ r.h.toNat := by unfold countA; rw [if_pos rfl]; omega
    unfold writeA
    rw [if_pos h1]
    simp only [h2, if_neg hc]
theorem write_fail {W m : Nat} {q S : Int} {xs ys rows : List Nat} {r : R} (hW : W ≤ 64) (h : Mid xs ys rows) (hf : Fits W ys.length r) :
    ∃ E rows' m', writeA ⟨W, rows, true, if S ≤ q then q - S else -1, m⟩ r (cutR ys r) = (E, ⟨W, rows', true, if S + r.h ≤ q then q - (S + r.h) else -1, m'⟩) ∧ ((S + r.h ≤ q ∧ E = 0) ∨ (q < S + r.h ∧ E = 52)) ∧ Mid xs ys rows' := by
  have hh : 1 ≤ r.h := hf.good.h
  obtain ⟨rows', hm, e1, e2⟩ := write_part (m := m) (l := if S ≤ q then q - S else -1) hW h hf
  by_cases hs : S + r.h ≤ q
  · refine ⟨0, rows', m + 1, ?_, .inl ⟨hs, rfl⟩, hm⟩
    rw [e1 (by rw [if_pos (by omega)]; omega), if_pos hs, if_pos (by omega), show q - S - r.h = q - (S + r.h) by omega]
  · refine ⟨52, rows', m, ?_, .inr ⟨by omega, rfl⟩, hm⟩
    rw [e2 (by split <;> omega), if_neg hs]
theorem fail_on {W m : Nat} {xs : List Nat} {f : Bool} {l n : Int} (h : 1 ≤ W) : failA ⟨W, xs, f, l, m⟩ n = ⟨W, xs, decide (0 ≤ n), n, m⟩ := by unfold failA; rw [if_pos (show 0 < W by omega)]
/-- The height of some rectangles. -/
def sumH : List R → Int
  | [] => 0
  | r :: l => r.h + sumH l
theorem sumH_snoc (l : List R) (r : R) : sumH (l ++ [r]) = sumH l + r.h := by
  induction l with
  | nil => simp [sumH]
  | cons a l ih => simp only [List.cons_append, sumH, ih]; omega
theorem sumH_bound {W K : Nat} (hK : K ≤ 64) : ∀ (l : List R), (∀ r ∈ l, Fits W K r) → 0 ≤ sumH l ∧ sumH l ≤ 64 * l.length
  | [], _ => by simp [sumH]
  | r :: l, h => by
    have ih := sumH_bound hK l (fun q hq => h q (List.mem_cons_of_mem _ hq))
    obtain ⟨X, Y, w, h', rfl, h1, h2, h3, h4⟩ := (h r List.mem_cons_self).nat
    simp only [sumH, List.length_cons]
    omega
/-- Numbers whose high bits are missing are small. -/
theorem lt_of_bits {x W : Nat} (h : ∀ i, W ≤ i → x.testBit i = false) : x < 2 ^ W := Nat.lt_pow_two_of_testBit x h
theorem Mid.small {W : Nat} {xs ys rows : List Nat} (h : Mid xs ys rows) (hx : ∀ x ∈ xs, x < 2 ^ W) (hy : ∀ y ∈ ys, y < 2 ^ W) : ∀ x ∈ rows, x < 2 ^ W := by
  intro x hxm
  obtain ⟨j, hj, rfl⟩ := List.mem_iff_getElem.1 hxm
  refine lt_of_bits fun i hi => ?_
  have e : rows.getD j 0 = rows[j] := by rw [List.getD_eq_getElem?_getD, List.getElem?_eq_getElem hj]; rfl
  have := h.bit j i
  rw [e] at this
  rcases this with e1 | e1
  · rw [e1]; exact bit_lt (getD_small hx j) hi
  · rw [e1]; exact bit_lt (getD_small hy j) hi
/-- Where rows differ from the old, they are the next. -/
theorem Mid.none {xs ys rows : List Nat} (h : Mid xs ys rows) (j : Nat) : ((rows.getD j 0) ^^^ (xs.getD j 0)) &&& ((rows.getD j 0) ^^^ (ys.getD j 0)) = 0 := by
  refine Nat.eq_of_testBit_eq fun i => ?_
  rw [Nat.testBit_and, Nat.testBit_xor, Nat.testBit_xor, Nat.zero_testBit]
  rcases h.bit j i with e | e <;> rw [e] <;> simp
end Go.Proofs.YtmmcadbkmfjcbaaDoor
