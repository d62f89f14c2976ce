/-
  What is written of a plan.
-/
import Derived.Test.YtmmcadbkmfjcbaaDoorP2
namespace Go.Proofs.YtmmcadbkmfjcbaaDoor

def putRect (ys rows : List Nat) (r : R) : List Nat := putN r.x.toNat r.y.toNat r.w.toNat (cutR ys r) rows r.h.toNat
/-- A rectangle within a page. -/
structure Fits (W K : Nat) (r : R) : Prop where
  good : Good K r
  wide : Wide W r
theorem Fits.inB {W K : Nat} {r : R} (h : Fits W K r) : inB r W K = true := by
  obtain ⟨⟨⟨a1, a2, a3, a4, a5, a6⟩, hw, hh⟩, hx⟩ := h
  unfold Wide at hx
  exact inB_true (by omega)
theorem Fits.nat {W K : Nat} {r : R} (h : Fits W K r) : ∃ X Y w h' : Nat, r = ⟨X, Y, w, h'⟩ ∧ 1 ≤ w ∧ 1 ≤ h' ∧ X + w ≤ W ∧ Y + h' ≤ K := by
  obtain ⟨X, Y, w, h', e, g1, g2, g3, g4⟩ := inB_nat h.inB
  exact ⟨X, Y, w, h', e, g1, g2, by omega, by omega⟩
theorem cutR_eq {W K : Nat} {ys : List Nat} {X Y w h' : Nat} (hW : W ≤ 64) (hK : ys.length = K) (h1 : 1 ≤ w) (h2 : 1 ≤ h') (h3 : X + w ≤ W) (h4 : Y + h' ≤ K) : cutR ys ⟨X, Y, w, h'⟩ = cutA ys X Y w h' := by
  unfold cutR
  rw [if_pos (inB_true (by simp only; omega))]
  simp only [Int.toNat_natCast]
theorem cut_at {ys : List Nat} {X Y w h' k : Nat} (hk : k < h') (h4 : Y + h' ≤ ys.length) : (cutA ys X Y w h').getD k 0 = cutX X w (ys.getD (Y + k) 0) := by
  obtain ⟨x, hx⟩ := some_at (xs := ys) (k := Y + k) (n := ys.length) (by omega) rfl
  have h5 : (cutA ys X Y w h')[k]? = some (cutX X w x) := by unfold cutA; rw [List.getElem?_map, sub_at hk hx]; rfl
  rw [getD_of h5, getD_of hx]
theorem cut_small {ys : List Nat} {X Y w h' : Nat} : ∀ x ∈ cutA ys X Y w h', x < 2 ^ w := by
  intro x hx
  unfold cutA at hx
  obtain ⟨y, _, rfl⟩ := List.mem_map.1 hx
  exact Nat.mod_lt _ (Nat.two_pow_pos _)
theorem putRect_length (ys rows : List Nat) (r : R) : (putRect ys rows r).length = rows.length := putN_length _ _ _ _ _ _
theorem putRect_bit {W K : Nat} {ys rows : List Nat} {r : R} (hW : W ≤ 64) (hK : ys.length = K) (hr : rows.length = K) (hf : Fits W K r) (j i : Nat) : ((putRect ys rows r).getD j 0).testBit i = if inR r j i then (ys.getD j 0).testBit i else (rows.getD j 0).testBit i := by
  obtain ⟨X, Y, w, h', rfl, h1, h2, h3, h4⟩ := hf.nat
  unfold putRect
  rw [cutR_eq hW hK h1 h2 h3 h4]
  simp only [Int.toNat_natCast]
  rw [putN_bit cut_small _ (by omega)]
  by_cases hin : (Y ≤ j ∧ j < Y + h') ∧ X ≤ i ∧ i < X + w
  · rw [if_pos hin, if_pos (show inR ⟨X, Y, w, h'⟩ j i by unfold inR; simp only; omega), cut_at (by omega) (by omega), show Y + (j - Y) = j by omega]
    unfold cutX
    rw [Nat.testBit_mod_two_pow, decide_eq_true (show i - X < w by omega), Bool.true_and, Nat.testBit_div_two_pow, show i - X + X = i by omega]
  · rw [if_neg hin, if_neg (fun hq => hin (by unfold inR at hq; simp only at hq; omega))]
theorem write_rect {W K : Nat} {ys rows : List Nat} {r : R} (hW : W ≤ 64) (hK : ys.length = K) (hr : rows.length = K) (hf : Fits W K r) : validA W rows.length r (cutR ys r) = true ∧ (cutR ys r).length = r.h.toNat := by
  have hin := hf.inB
  obtain ⟨X, Y, w, h', rfl, h1, h2, h3, h4⟩ := hf.nat
  rw [cutR_eq hW hK h1 h2 h3 h4]
  have hl := cutA_length (xs := ys) (X := X) (W := w) (Y := Y) (H := h') (by omega)
  refine ⟨?_, by rw [hl]; simp⟩
  unfold validA
  rw [hr, hin, hl, decide_eq_true rfl]
  simp only [Bool.true_and, List.all_eq_true, decide_eq_true_eq, Int.toNat_natCast]
  exact cut_small
theorem write_steady {W K m : Nat} {l : Int} {ys rows : List Nat} {r : R} (hW : W ≤ 64) (hK : ys.length = K) (hr : rows.length = K) (hf : Fits W K r) : writeA ⟨W, rows, false, l, m⟩ r (cutR ys r) = (0, ⟨W, putRect ys rows r, false, l, m + 1⟩) := by
  obtain ⟨h1, h2⟩ := write_rect hW hK hr hf
  unfold writeA
  rw [if_pos h1]
  simp only [countA, Bool.false_eq_true, if_false, if_true]
  unfold putRect
  rw [h2]
/-- The rows behind some rectangles. -/
def fillA (ys : List Nat) (rows : List Nat) (l : List R) : List Nat := l.foldl (fun a r => putRect ys a r) rows
theorem fill_snoc (ys rows : List Nat) (l : List R) (r : R) : fillA ys rows (l ++ [r]) = putRect ys (fillA ys rows l) r := by simp [fillA]
theorem fill_length (ys : List Nat) : ∀ (l : List R) (rows : List Nat), (fillA ys rows l).length = rows.length
  | [], _ => rfl
  | r :: l, rows => by
    have := fill_length ys l (putRect ys rows r)
    rw [putRect_length] at this
    exact this
theorem fill_bit {W K : Nat} {ys : List Nat} (hW : W ≤ 64) (hK : ys.length = K) (j i : Nat) : ∀ (l : List R) (rows : List Nat), rows.length = K → (∀ r ∈ l, Fits W K r) → (((∃ r ∈ l, inR r j i) → ((fillA ys rows l).getD j 0).testBit i = (ys.getD j 0).testBit i) ∧ ((¬ ∃ r ∈ l, inR r j i) → ((fillA ys rows l).getD j 0).testBit i = (rows.getD j 0).testBit i))
  | [], rows, _, _ => ⟨fun ⟨_, hr, _⟩ => absurd hr List.not_mem_nil, fun _ => rfl⟩
  | r :: l, rows, hr, hf => by
    obtain ⟨i1, i2⟩ := fill_bit hW hK j i l (putRect ys rows r) (by rw [putRect_length, hr]) (fun q hq => hf q (List.mem_cons_of_mem _ hq))
    have hb := putRect_bit hW hK hr (hf r List.mem_cons_self) j i
    have e : fillA ys rows (r :: l) = fillA ys (putRect ys rows r) l := rfl
    rw [e]
    by_cases hl : ∃ q ∈ l, inR q j i
    · refine ⟨fun _ => i1 hl, fun h => absurd ?_ h⟩
      obtain ⟨q, hq, hin⟩ := hl
      exact ⟨q, List.mem_cons_of_mem _ hq, hin⟩
    · rw [i2 hl, hb]
      by_cases hin : inR r j i
      · rw [if_pos hin]
        exact ⟨fun _ => rfl, fun h => absurd ⟨r, List.mem_cons_self, hin⟩ h⟩
      · rw [if_neg hin]
        refine ⟨fun h => ?_, fun _ => rfl⟩
        obtain ⟨q, hq, hqi⟩ := h
        rcases List.mem_cons.1 hq with rfl | hq
        · exact absurd hqi hin
        · exact absurd ⟨q, hq, hqi⟩ hl
theorem PlanOf.fits {W : Nat} {xs ys : List Nat} {l : List R} (h : PlanOf W xs ys l) : ∀ r ∈ l, Fits W xs.length r := fun r hr => ⟨h.good r hr, h.wide r hr⟩
/-- A plan that is written brings the page. -/
theorem fill_plan {W : Nat} {xs ys : List Nat} {l : List R} (hW : W ≤ 64) (h : PlanOf W xs ys l) (hl : xs.length = ys.length) (hx : ∀ x ∈ xs, x < 2 ^ W) (hy : ∀ y ∈ ys, y < 2 ^ W) : fillA ys xs l = ys := by
  refine rows_eq (by rw [fill_length, hl]) fun j i hj => ?_
  rw [fill_length] at hj
  obtain ⟨i1, i2⟩ := fill_bit hW hl.symm j i l xs rfl h.fits
  by_cases hc : ∃ r ∈ l, inR r j i
  · exact i1 hc
  · rw [i2 hc]
    by_cases hi : i < W
    · by_cases hd : (xs.getD j 0).testBit i = (ys.getD j 0).testBit i
      · exact hd
      · exact absurd (h.cov j i hj hi hd) hc
    · rw [bit_lt (getD_small hx j) (by omega), bit_lt (getD_small hy j) (by omega)]
end Go.Proofs.YtmmcadbkmfjcbaaDoor
