/-
  The first error that a function finds in a list.
  Outlines: numbers within bounds, contours, and the check of a glyph that has neither anchors nor deltas.
  The check of a glyph that has neither anchors nor deltas.
-/
import Derived.Test.YtajebdpalnpjdaaGreatDoorM01
import Derived.Shelf.Abstract
namespace Go.Proofs.YtajebdpalnpjdaaGreatDoor
open Go.RowKit
attribute [local go_sem] alloc_drewN setCell_drewN

/-- The first of some errors that is none of 0. -/
def firstE (p : Nat → Int) : Nat → Int
  | 0 => 0
  | n + 1 => if firstE p n = 0 then p n else firstE p n
theorem firstE_stop {p : Nat → Int} {k n : Nat} (hk : k < n) (h0 : firstE p k = 0) (h : p k ≠ 0) : firstE p n = p k := by
  induction n with
  | zero => omega
  | succ n ih =>
    unfold firstE
    by_cases hkn : k = n
    · subst hkn; rw [if_pos h0]
    · rw [ih (by omega), if_neg h]
theorem firstE_congr {p q : Nat → Int} {n : Nat} (h : ∀ k, k < n → p k = q k) : firstE p n = firstE q n := by
  induction n with
  | zero => rfl
  | succ n ih => unfold firstE; rw [ih (fun k hk => h k (by omega)), h n (by omega)]
theorem firstE_zero {p : Nat → Int} {n : Nat} (h : ∀ k, k < n → p k = 0) : firstE p n = 0 := by
  induction n with
  | zero => rfl
  | succ n ih => unfold firstE; rw [ih (fun k hk => h k (by omega)), h n (by omega), if_pos rfl]
/-- What a check says of each element, whatever else was made before. -/
def Checks (f : FuncId) (caps : Array Value) (w : World) (n : Nat) (elem : Nat → World → Value → Prop) (p : Nat → Int) : Prop :=
  ∀ (k : Nat) (W : World) (u : Value), k < n → Ext Nope w W → elem k W u → Calls Tryz.prog f (#[.int .i64 k, u] ++ caps) W fun e W' => e = .returned (.int .i64 (p k)) ∧ Ext Nope W W'
theorem Checks.ext {f : FuncId} {caps : Array Value} {w w' : World} {n : Nat} {elem : Nat → World → Value → Prop} {p : Nat → Int} (h : Checks f caps w n elem p) (e : Ext Nope w w') : Checks f caps w' n elem p := fun k W u hk hE hu => h k W u hk (ext0 e hE) hu
set_option maxHeartbeats 1000000 in
/-- font.each at abugida/api.Lookup -/
theorem each_lookups {A : Nat → Prop} {w : World} {v : Value} {xs : List Dat} {f : FuncId} {caps : Array Value} {p : Nat → Int} (hf : Enters f) (hr : Rd A w [v] (.l 1 xs)) (hs : Checks f caps w xs.length (ElS A xs) p) :
    Calls Tryz.prog 28 #[v, .func (.func f) #[] caps] w fun e w' => e = .returned (.int .i64 (firstE p xs.length)) ∧ Ext Nope w w' := by
  have HR := toHid hr
  obtain ⟨a, cap, hv, hc1, hc2, _⟩ := hr.l_inv
  simp only [List.cons.injEq, and_true] at hv
  subst hv
  obtain ⟨n, HN⟩ : ∃ n, Hid (xs.length = n) := ⟨_, rfl⟩
  have HS := toHid hs
  rw [HN.out] at hc1 hs ⊢
  clear hr hs
  go_enter Tryz.func28, Tryz.ntmps28
  go_wp2
  go_loopw [10] (fun i wr => ∃ k : Nat, i = .int .i64 k ∧ k ≤ n ∧ firstE p k = 0 ∧ Ext Nope w wr) (fun i _ => n - (intOf i).toNat)
  case atStart => exact ⟨0, rfl, Nat.zero_le _, rfl, Ext.refl _ _⟩
  case round =>
    obtain ⟨k, rfl, hk, hp, hE⟩ := hrel
    rename World => wr
    have HE := toHid (show _ ∧ _ from ⟨hE, hp⟩)
    clear hE hp
    by_cases hkn : k < n
    · have hd := HR.out.ext0 HE.out.1
      obtain ⟨a', cap', hv, _, _, hl⟩ := hd.l_inv
      simp only [List.cons.injEq, Value.slice.injEq, and_true] at hv
      obtain ⟨rfl, _, rfl⟩ := hv
      obtain ⟨b, off, rfl, hb, hbl, hat⟩ := hl (by rw [HN.out]; omega)
      obtain ⟨x, hx⟩ : ∃ x, xs[k]? = some x := ⟨_, List.getElem?_eq_getElem (by rw [HN.out]; exact hkn)⟩
      obtain ⟨us, hu1, hu2, hu3⟩ := hat k x hx
      obtain ⟨u0, rfl⟩ : ∃ u0, us = [u0] := by
        match us, hu1 with
        | [u0], _ => exact ⟨u0, rfl⟩
      have c0 : wr.cell? ⟨b, off + k, none⟩ = some u0 := by simpa using hu2 0 _ rfl
      have o0 := store_one (P := Tryz.prog) (hu3.one u0 (by simp))
      have HC := toHid (show ∀ w1, Ext Nope wr w1 → _ from fun w1 e1 => HS.out k w1 (.agg #[u0]) (by rw [HN.out]; exact hkn) (ext0 HE.out.1 e1) ⟨x, [u0], rfl, hx, (hu3.ext0 e1)⟩)
      have s1 : (0 : Int) ≤ (k : Int) := by omega
      have s2 : (k : Int) < (n : Int) := by omega
      clear hd hl hat hu2 hu3 hx hb hu1
      go_wp2_with fail
      refine (HC.out _ (by repeat (first | exact Ext.refl _ _ | (refine Ext.setCell (S := Nope) ?_ _ _ (fun z => absurd z (by simp)) _) | (refine Ext.alloc ?_ _)))).mono ?_
      rintro e w2 ⟨rfl, e2⟩
      have HP : Hid (firstE p (k + 1) = if firstE p k = 0 then p k else firstE p k) := rfl
      have HQ := toHid (show p k ≠ 0 → firstE p n = p k from fun h => firstE_stop hkn HE.out.2 h)
      have H2 : Hid (Ext Nope w w2) := ext0 (ext0 HE.out.1 (by repeat (first | exact Ext.refl _ _ | (refine Ext.setCell (S := Nope) ?_ _ _ (fun z => absurd z (by simp)) _) | (refine Ext.alloc ?_ _)))) e2
      clear e2 HC
      by_cases hpk : p k = 0
      · have HK : Hid (firstE p (k + 1) = 0) := by unfold Hid; rw [HP.out, HE.out.2, if_pos rfl, hpk]
        have s3 : (p k != 0) = false := by rw [hpk]; rfl
        clear hpk
        go_wp2
        go_roundw
        case rel => exact ⟨k + 1, by go_num, by omega, HK.out, H2.out⟩
        case measure => simp [intOf]; omega
      · have HK := toHid (HQ.out hpk)
        have s3 : (p k != 0) = true := by rw [bne_iff_ne]; exact hpk
        clear hpk
        go_wp2
        go_ret
        exact ⟨ret_i HK.out.symm, H2.out⟩
    · have hkk : k = n := by omega
      subst hkk
      have s2 : decide ((k : Int) < (k : Int)) = false := by simp
      go_wp2
      go_ret
      exact ⟨ret_i HE.out.2.symm, HE.out.1⟩
set_option maxHeartbeats 1000000 in
/-- font.each at abugida/api.Glyph -/
theorem each_glyphs {A : Nat → Prop} {w : World} {v : Value} {xs : List Dat} {f : FuncId} {caps : Array Value} {p : Nat → Int} (hf : Enters f) (hr : Rd A w [v] (.l 8 xs)) (hs : Checks f caps w xs.length (ElS A xs) p) :
    Calls Tryz.prog 32 #[v, .func (.func f) #[] caps] w fun e w' => e = .returned (.int .i64 (firstE p xs.length)) ∧ Ext Nope w w' := by
  have HR := toHid hr
  obtain ⟨a, cap, hv, hc1, hc2, _⟩ := hr.l_inv
  simp only [List.cons.injEq, and_true] at hv
  subst hv
  obtain ⟨n, HN⟩ : ∃ n, Hid (xs.length = n) := ⟨_, rfl⟩
  have HS := toHid hs
  rw [HN.out] at hc1 hs ⊢
  clear hr hs
  go_enter Tryz.func32, Tryz.ntmps32
  go_wp2
  go_loopw [10] (fun i wr => ∃ k : Nat, i = .int .i64 k ∧ k ≤ n ∧ firstE p k = 0 ∧ Ext Nope w wr) (fun i _ => n - (intOf i).toNat)
  case atStart => exact ⟨0, rfl, Nat.zero_le _, rfl, Ext.refl _ _⟩
  case round =>
    obtain ⟨k, rfl, hk, hp, hE⟩ := hrel
    rename World => wr
    have HE := toHid (show _ ∧ _ from ⟨hE, hp⟩)
    clear hE hp
    by_cases hkn : k < n
    · have hd := HR.out.ext0 HE.out.1
      obtain ⟨a', cap', hv, _, _, hl⟩ := hd.l_inv
      simp only [List.cons.injEq, Value.slice.injEq, and_true] at hv
      obtain ⟨rfl, _, rfl⟩ := hv
      obtain ⟨b, off, rfl, hb, hbl, hat⟩ := hl (by rw [HN.out]; omega)
      obtain ⟨x, hx⟩ : ∃ x, xs[k]? = some x := ⟨_, List.getElem?_eq_getElem (by rw [HN.out]; exact hkn)⟩
      obtain ⟨us, hu1, hu2, hu3⟩ := hat k x hx
      obtain ⟨u0, u1, u2, u3, u4, u5, u6, u7, rfl⟩ : ∃ u0 u1 u2 u3 u4 u5 u6 u7, us = [u0, u1, u2, u3, u4, u5, u6, u7] := by
        match us, hu1 with
        | [u0, u1, u2, u3, u4, u5, u6, u7], _ => exact ⟨u0, u1, u2, u3, u4, u5, u6, u7, rfl⟩
      have c0 : wr.cell? ⟨b, off + k * 8, none⟩ = some u0 := by simpa using hu2 0 _ rfl
      have c1 : wr.cell? ⟨b, off + k * 8 + 1, none⟩ = some u1 := by simpa using hu2 1 _ rfl
      have c2 : wr.cell? ⟨b, off + k * 8 + 2, none⟩ = some u2 := by simpa using hu2 2 _ rfl
      have c3 : wr.cell? ⟨b, off + k * 8 + 3, none⟩ = some u3 := by simpa using hu2 3 _ rfl
      have c4 : wr.cell? ⟨b, off + k * 8 + 4, none⟩ = some u4 := by simpa using hu2 4 _ rfl
      have c5 : wr.cell? ⟨b, off + k * 8 + 5, none⟩ = some u5 := by simpa using hu2 5 _ rfl
      have c6 : wr.cell? ⟨b, off + k * 8 + 6, none⟩ = some u6 := by simpa using hu2 6 _ rfl
      have c7 : wr.cell? ⟨b, off + k * 8 + 7, none⟩ = some u7 := by simpa using hu2 7 _ rfl
      have o0 := store_one (P := Tryz.prog) (hu3.one u0 (by simp))
      have o1 := store_one (P := Tryz.prog) (hu3.one u1 (by simp))
      have o2 := store_one (P := Tryz.prog) (hu3.one u2 (by simp))
      have o3 := store_one (P := Tryz.prog) (hu3.one u3 (by simp))
      have o4 := store_one (P := Tryz.prog) (hu3.one u4 (by simp))
      have o5 := store_one (P := Tryz.prog) (hu3.one u5 (by simp))
      have o6 := store_one (P := Tryz.prog) (hu3.one u6 (by simp))
      have o7 := store_one (P := Tryz.prog) (hu3.one u7 (by simp))
      have HC := toHid (show ∀ w1, Ext Nope wr w1 → _ from fun w1 e1 => HS.out k w1 (.agg #[u0, u1, u2, u3, u4, u5, u6, u7]) (by rw [HN.out]; exact hkn) (ext0 HE.out.1 e1) ⟨x, [u0, u1, u2, u3, u4, u5, u6, u7], rfl, hx, (hu3.ext0 e1)⟩)
      have s1 : (0 : Int) ≤ (k : Int) := by omega
      have s2 : (k : Int) < (n : Int) := by omega
      clear hd hl hat hu2 hu3 hx hb hu1
      go_wp2_with fail
      refine (HC.out _ (by repeat (first | exact Ext.refl _ _ | (refine Ext.setCell (S := Nope) ?_ _ _ (fun z => absurd z (by simp)) _) | (refine Ext.alloc ?_ _)))).mono ?_
      rintro e w2 ⟨rfl, e2⟩
      have HP : Hid (firstE p (k + 1) = if firstE p k = 0 then p k else firstE p k) := rfl
      have HQ := toHid (show p k ≠ 0 → firstE p n = p k from fun h => firstE_stop hkn HE.out.2 h)
      have H2 : Hid (Ext Nope w w2) := ext0 (ext0 HE.out.1 (by repeat (first | exact Ext.refl _ _ | (refine Ext.setCell (S := Nope) ?_ _ _ (fun z => absurd z (by simp)) _) | (refine Ext.alloc ?_ _)))) e2
      clear e2 HC
      by_cases hpk : p k = 0
      · have HK : Hid (firstE p (k + 1) = 0) := by unfold Hid; rw [HP.out, HE.out.2, if_pos rfl, hpk]
        have s3 : (p k != 0) = false := by rw [hpk]; rfl
        clear hpk
        go_wp2
        go_roundw
        case rel => exact ⟨k + 1, by go_num, by omega, HK.out, H2.out⟩
        case measure => simp [intOf]; omega
      · have HK := toHid (HQ.out hpk)
        have s3 : (p k != 0) = true := by rw [bne_iff_ne]; exact hpk
        clear hpk
        go_wp2
        go_ret
        exact ⟨ret_i HK.out.symm, H2.out⟩
    · have hkk : k = n := by omega
      subst hkk
      have s2 : decide ((k : Int) < (k : Int)) = false := by simp
      go_wp2
      go_ret
      exact ⟨ret_i HE.out.2.symm, HE.out.1⟩
set_option maxHeartbeats 1000000 in
/-- font.each at abugida/api.Axis -/
theorem each_axes {A : Nat → Prop} {w : World} {v : Value} {xs : List Dat} {f : FuncId} {caps : Array Value} {p : Nat → Int} (hf : Enters f) (hr : Rd A w [v] (.l 5 xs)) (hs : Checks f caps w xs.length (ElS A xs) p) :
    Calls Tryz.prog 143 #[v, .func (.func f) #[] caps] w fun e w' => e = .returned (.int .i64 (firstE p xs.length)) ∧ Ext Nope w w' := by
  have HR := toHid hr
  obtain ⟨a, cap, hv, hc1, hc2, _⟩ := hr.l_inv
  simp only [List.cons.injEq, and_true] at hv
  subst hv
  obtain ⟨n, HN⟩ : ∃ n, Hid (xs.length = n) := ⟨_, rfl⟩
  have HS := toHid hs
  rw [HN.out] at hc1 hs ⊢
  clear hr hs
  go_enter Tryz.func143, Tryz.ntmps143
  go_wp2
  go_loopw [10] (fun i wr => ∃ k : Nat, i = .int .i64 k ∧ k ≤ n ∧ firstE p k = 0 ∧ Ext Nope w wr) (fun i _ => n - (intOf i).toNat)
  case atStart => exact ⟨0, rfl, Nat.zero_le _, rfl, Ext.refl _ _⟩
  case round =>
    obtain ⟨k, rfl, hk, hp, hE⟩ := hrel
    rename World => wr
    have HE := toHid (show _ ∧ _ from ⟨hE, hp⟩)
    clear hE hp
    by_cases hkn : k < n
    · have hd := HR.out.ext0 HE.out.1
      obtain ⟨a', cap', hv, _, _, hl⟩ := hd.l_inv
      simp only [List.cons.injEq, Value.slice.injEq, and_true] at hv
      obtain ⟨rfl, _, rfl⟩ := hv
      obtain ⟨b, off, rfl, hb, hbl, hat⟩ := hl (by rw [HN.out]; omega)
      obtain ⟨x, hx⟩ : ∃ x, xs[k]? = some x := ⟨_, List.getElem?_eq_getElem (by rw [HN.out]; exact hkn)⟩
      obtain ⟨us, hu1, hu2, hu3⟩ := hat k x hx
      obtain ⟨u0, u1, u2, u3, u4, rfl⟩ : ∃ u0 u1 u2 u3 u4, us = [u0, u1, u2, u3, u4] := by
        match us, hu1 with
        | [u0, u1, u2, u3, u4], _ => exact ⟨u0, u1, u2, u3, u4, rfl⟩
      have c0 : wr.cell? ⟨b, off + k * 5, none⟩ = some u0 := by simpa using hu2 0 _ rfl
      have c1 : wr.cell? ⟨b, off + k * 5 + 1, none⟩ = some u1 := by simpa using hu2 1 _ rfl
      have c2 : wr.cell? ⟨b, off + k * 5 + 2, none⟩ = some u2 := by simpa using hu2 2 _ rfl
      have c3 : wr.cell? ⟨b, off + k * 5 + 3, none⟩ = some u3 := by simpa using hu2 3 _ rfl
      have c4 : wr.cell? ⟨b, off + k * 5 + 4, none⟩ = some u4 := by simpa using hu2 4 _ rfl
      have o0 := store_one (P := Tryz.prog) (hu3.one u0 (by simp))
      have o1 := store_one (P := Tryz.prog) (hu3.one u1 (by simp))
      have o2 := store_one (P := Tryz.prog) (hu3.one u2 (by simp))
      have o3 := store_one (P := Tryz.prog) (hu3.one u3 (by simp))
      have o4 := store_one (P := Tryz.prog) (hu3.one u4 (by simp))
      have HC := toHid (show ∀ w1, Ext Nope wr w1 → _ from fun w1 e1 => HS.out k w1 (.agg #[u0, u1, u2, u3, u4]) (by rw [HN.out]; exact hkn) (ext0 HE.out.1 e1) ⟨x, [u0, u1, u2, u3, u4], rfl, hx, (hu3.ext0 e1)⟩)
      have s1 : (0 : Int) ≤ (k : Int) := by omega
      have s2 : (k : Int) < (n : Int) := by omega
      clear hd hl hat hu2 hu3 hx hb hu1
      go_wp2_with fail
      refine (HC.out _ (by repeat (first | exact Ext.refl _ _ | (refine Ext.setCell (S := Nope) ?_ _ _ (fun z => absurd z (by simp)) _) | (refine Ext.alloc ?_ _)))).mono ?_
      rintro e w2 ⟨rfl, e2⟩
      have HP : Hid (firstE p (k + 1) = if firstE p k = 0 then p k else firstE p k) := rfl
      have HQ := toHid (show p k ≠ 0 → firstE p n = p k from fun h => firstE_stop hkn HE.out.2 h)
      have H2 : Hid (Ext Nope w w2) := ext0 (ext0 HE.out.1 (by repeat (first | exact Ext.refl _ _ | (refine Ext.setCell (S := Nope) ?_ _ _ (fun z => absurd z (by simp)) _) | (refine Ext.alloc ?_ _)))) e2
      clear e2 HC
      by_cases hpk : p k = 0
      · have HK : Hid (firstE p (k + 1) = 0) := by unfold Hid; rw [HP.out, HE.out.2, if_pos rfl, hpk]
        have s3 : (p k != 0) = false := by rw [hpk]; rfl
        clear hpk
        go_wp2
        go_roundw
        case rel => exact ⟨k + 1, by go_num, by omega, HK.out, H2.out⟩
        case measure => simp [intOf]; omega
      · have HK := toHid (HQ.out hpk)
        have s3 : (p k != 0) = true := by rw [bne_iff_ne]; exact hpk
        clear hpk
        go_wp2
        go_ret
        exact ⟨ret_i HK.out.symm, H2.out⟩
    · have hkk : k = n := by omega
      subst hkk
      have s2 : decide ((k : Int) < (k : Int)) = false := by simp
      go_wp2
      go_ret
      exact ⟨ret_i HE.out.2.symm, HE.out.1⟩
set_option maxHeartbeats 1000000 in
/-- font.each at abugida/api.Char -/
theorem each_chars {A : Nat → Prop} {w : World} {v : Value} {xs : List Dat} {f : FuncId} {caps : Array Value} {p : Nat → Int} (hf : Enters f) (hr : Rd A w [v] (.l 4 xs)) (hs : Checks f caps w xs.length (ElS A xs) p) :
    Calls Tryz.prog 151 #[v, .func (.func f) #[] caps] w fun e w' => e = .returned (.int .i64 (firstE p xs.length)) ∧ Ext Nope w w' := by
  have HR := toHid hr
  obtain ⟨a, cap, hv, hc1, hc2, _⟩ := hr.l_inv
  simp only [List.cons.injEq, and_true] at hv
  subst hv
  obtain ⟨n, HN⟩ : ∃ n, Hid (xs.length = n) := ⟨_, rfl⟩
  have HS := toHid hs
  rw [HN.out] at hc1 hs ⊢
  clear hr hs
  go_enter Tryz.func151, Tryz.ntmps151
  go_wp2
  go_loopw [10] (fun i wr => ∃ k : Nat, i = .int .i64 k ∧ k ≤ n ∧ firstE p k = 0 ∧ Ext Nope w wr) (fun i _ => n - (intOf i).toNat)
  case atStart => exact ⟨0, rfl, Nat.zero_le _, rfl, Ext.refl _ _⟩
  case round =>
    obtain ⟨k, rfl, hk, hp, hE⟩ := hrel
    rename World => wr
    have HE := toHid (show _ ∧ _ from ⟨hE, hp⟩)
    clear hE hp
    by_cases hkn : k < n
    · have hd := HR.out.ext0 HE.out.1
      obtain ⟨a', cap', hv, _, _, hl⟩ := hd.l_inv
      simp only [List.cons.injEq, Value.slice.injEq, and_true] at hv
      obtain ⟨rfl, _, rfl⟩ := hv
      obtain ⟨b, off, rfl, hb, hbl, hat⟩ := hl (by rw [HN.out]; omega)
      obtain ⟨x, hx⟩ : ∃ x, xs[k]? = some x := ⟨_, List.getElem?_eq_getElem (by rw [HN.out]; exact hkn)⟩
      obtain ⟨us, hu1, hu2, hu3⟩ := hat k x hx
      obtain ⟨u0, u1, u2, u3, rfl⟩ : ∃ u0 u1 u2 u3, us = [u0, u1, u2, u3] := by
        match us, hu1 with
        | [u0, u1, u2, u3], _ => exact ⟨u0, u1, u2, u3, rfl⟩
      have c0 : wr.cell? ⟨b, off + k * 4, none⟩ = some u0 := by simpa using hu2 0 _ rfl
      have c1 : wr.cell? ⟨b, off + k * 4 + 1, none⟩ = some u1 := by simpa using hu2 1 _ rfl
      have c2 : wr.cell? ⟨b, off + k * 4 + 2, none⟩ = some u2 := by simpa using hu2 2 _ rfl
      have c3 : wr.cell? ⟨b, off + k * 4 + 3, none⟩ = some u3 := by simpa using hu2 3 _ rfl
      have o0 := store_one (P := Tryz.prog) (hu3.one u0 (by simp))
      have o1 := store_one (P := Tryz.prog) (hu3.one u1 (by simp))
      have o2 := store_one (P := Tryz.prog) (hu3.one u2 (by simp))
      have o3 := store_one (P := Tryz.prog) (hu3.one u3 (by simp))
      have HC := toHid (show ∀ w1, Ext Nope wr w1 → _ from fun w1 e1 => HS.out k w1 (.agg #[u0, u1, u2, u3]) (by rw [HN.out]; exact hkn) (ext0 HE.out.1 e1) ⟨x, [u0, u1, u2, u3], rfl, hx, (hu3.ext0 e1)⟩)
      have s1 : (0 : Int) ≤ (k : Int) := by omega
      have s2 : (k : Int) < (n : Int) := by omega
      clear hd hl hat hu2 hu3 hx hb hu1
      go_wp2_with fail
      refine (HC.out _ (by repeat (first | exact Ext.refl _ _ | (refine Ext.setCell (S := Nope) ?_ _ _ (fun z => absurd z (by simp)) _) | (refine Ext.alloc ?_ _)))).mono ?_
      rintro e w2 ⟨rfl, e2⟩
      have HP : Hid (firstE p (k + 1) = if firstE p k = 0 then p k else firstE p k) := rfl
      have HQ := toHid (show p k ≠ 0 → firstE p n = p k from fun h => firstE_stop hkn HE.out.2 h)
      have H2 : Hid (Ext Nope w w2) := ext0 (ext0 HE.out.1 (by repeat (first | exact Ext.refl _ _ | (refine Ext.setCell (S := Nope) ?_ _ _ (fun z => absurd z (by simp)) _) | (refine Ext.alloc ?_ _)))) e2
      clear e2 HC
      by_cases hpk : p k = 0
      · have HK : Hid (firstE p (k + 1) = 0) := by unfold Hid; rw [HP.out, HE.out.2, if_pos rfl, hpk]
        have s3 : (p k != 0) = false := by rw [hpk]; rfl
        clear hpk
        go_wp2
        go_roundw
        case rel => exact ⟨k + 1, by go_num, by omega, HK.out, H2.out⟩
        case measure => simp [intOf]; omega
      · have HK := toHid (HQ.out hpk)
        have s3 : (p k != 0) = true := by rw [bne_iff_ne]; exact hpk
        clear hpk
        go_wp2
        go_ret
        exact ⟨ret_i HK.out.symm, H2.out⟩
    · have hkk : k = n := by omega
      subst hkk
      have s2 : decide ((k : Int) < (k : Int)) = false := by simp
      go_wp2
      go_ret
      exact ⟨ret_i HE.out.2.symm, HE.out.1⟩
set_option maxHeartbeats 1000000 in
/-- font.each at abugida/api.Grow -/
theorem each_grows {A : Nat → Prop} {w : World} {v : Value} {xs : List Dat} {f : FuncId} {caps : Array Value} {p : Nat → Int} (hf : Enters f) (hr : Rd A w [v] (.l 2 xs)) (hs : Checks f caps w xs.length (ElS A xs) p) :
    Calls Tryz.prog 153 #[v, .func (.func f) #[] caps] w fun e w' => e = .returned (.int .i64 (firstE p xs.length)) ∧ Ext Nope w w' := by
  have HR := toHid hr
  obtain ⟨a, cap, hv, hc1, hc2, _⟩ := hr.l_inv
  simp only [List.cons.injEq, and_true] at hv
  subst hv
  obtain ⟨n, HN⟩ : ∃ n, Hid (xs.length = n) := ⟨_, rfl⟩
  have HS := toHid hs
  rw [HN.out] at hc1 hs ⊢
  clear hr hs
  go_enter Tryz.func153, Tryz.ntmps153
  go_wp2
  go_loopw [10] (fun i wr => ∃ k : Nat, i = .int .i64 k ∧ k ≤ n ∧ firstE p k = 0 ∧ Ext Nope w wr) (fun i _ => n - (intOf i).toNat)
  case atStart => exact ⟨0, rfl, Nat.zero_le _, rfl, Ext.refl _ _⟩
  case round =>
    obtain ⟨k, rfl, hk, hp, hE⟩ := hrel
    rename World => wr
    have HE := toHid (show _ ∧ _ from ⟨hE, hp⟩)
    clear hE hp
    by_cases hkn : k < n
    · have hd := HR.out.ext0 HE.out.1
      obtain ⟨a', cap', hv, _, _, hl⟩ := hd.l_inv
      simp only [List.cons.injEq, Value.slice.injEq, and_true] at hv
      obtain ⟨rfl, _, rfl⟩ := hv
      obtain ⟨b, off, rfl, hb, hbl, hat⟩ := hl (by rw [HN.out]; omega)
      obtain ⟨x, hx⟩ : ∃ x, xs[k]? = some x := ⟨_, List.getElem?_eq_getElem (by rw [HN.out]; exact hkn)⟩
      obtain ⟨us, hu1, hu2, hu3⟩ := hat k x hx
      obtain ⟨u0, u1, rfl⟩ : ∃ u0 u1, us = [u0, u1] := by
        match us, hu1 with
        | [u0, u1], _ => exact ⟨u0, u1, rfl⟩
      have c0 : wr.cell? ⟨b, off + k * 2, none⟩ = some u0 := by simpa using hu2 0 _ rfl
      have c1 : wr.cell? ⟨b, off + k * 2 + 1, none⟩ = some u1 := by simpa using hu2 1 _ rfl
      have o0 := store_one (P := Tryz.prog) (hu3.one u0 (by simp))
      have o1 := store_one (P := Tryz.prog) (hu3.one u1 (by simp))
      have HC := toHid (show ∀ w1, Ext Nope wr w1 → _ from fun w1 e1 => HS.out k w1 (.agg #[u0, u1]) (by rw [HN.out]; exact hkn) (ext0 HE.out.1 e1) ⟨x, [u0, u1], rfl, hx, (hu3.ext0 e1)⟩)
      have s1 : (0 : Int) ≤ (k : Int) := by omega
      have s2 : (k : Int) < (n : Int) := by omega
      clear hd hl hat hu2 hu3 hx hb hu1
      go_wp2_with fail
      refine (HC.out _ (by repeat (first | exact Ext.refl _ _ | (refine Ext.setCell (S := Nope) ?_ _ _ (fun z => absurd z (by simp)) _) | (refine Ext.alloc ?_ _)))).mono ?_
      rintro e w2 ⟨rfl, e2⟩
      have HP : Hid (firstE p (k + 1) = if firstE p k = 0 then p k else firstE p k) := rfl
      have HQ := toHid (show p k ≠ 0 → firstE p n = p k from fun h => firstE_stop hkn HE.out.2 h)
      have H2 : Hid (Ext Nope w w2) := ext0 (ext0 HE.out.1 (by repeat (first | exact Ext.refl _ _ | (refine Ext.setCell (S := Nope) ?_ _ _ (fun z => absurd z (by simp)) _) | (refine Ext.alloc ?_ _)))) e2
      clear e2 HC
      by_cases hpk : p k = 0
      · have HK : Hid (firstE p (k + 1) = 0) := by unfold Hid; rw [HP.out, HE.out.2, if_pos rfl, hpk]
        have s3 : (p k != 0) = false := by rw [hpk]; rfl
        clear hpk
        go_wp2
        go_roundw
        case rel => exact ⟨k + 1, by go_num, by omega, HK.out, H2.out⟩
        case measure => simp [intOf]; omega
      · have HK := toHid (HQ.out hpk)
        have s3 : (p k != 0) = true := by rw [bne_iff_ne]; exact hpk
        clear hpk
        go_wp2
        go_ret
        exact ⟨ret_i HK.out.symm, H2.out⟩
    · have hkk : k = n := by omega
      subst hkk
      have s2 : decide ((k : Int) < (k : Int)) = false := by simp
      go_wp2
      go_ret
      exact ⟨ret_i HE.out.2.symm, HE.out.1⟩
set_option maxHeartbeats 1000000 in
/-- font.each at abugida/api.Pair -/
theorem each_pairs {A : Nat → Prop} {w : World} {v : Value} {xs : List Dat} {f : FuncId} {caps : Array Value} {p : Nat → Int} (hf : Enters f) (hr : Rd A w [v] (.l 3 xs)) (hs : Checks f caps w xs.length (ElS A xs) p) :
    Calls Tryz.prog 155 #[v, .func (.func f) #[] caps] w fun e w' => e = .returned (.int .i64 (firstE p xs.length)) ∧ Ext Nope w w' := by
  have HR := toHid hr
  obtain ⟨a, cap, hv, hc1, hc2, _⟩ := hr.l_inv
  simp only [List.cons.injEq, and_true] at hv
  subst hv
  obtain ⟨n, HN⟩ : ∃ n, Hid (xs.length = n) := ⟨_, rfl⟩
  have HS := toHid hs
  rw [HN.out] at hc1 hs ⊢
  clear hr hs
  go_enter Tryz.func155, Tryz.ntmps155
  go_wp2
  go_loopw [10] (fun i wr => ∃ k : Nat, i = .int .i64 k ∧ k ≤ n ∧ firstE p k = 0 ∧ Ext Nope w wr) (fun i _ => n - (intOf i).toNat)
  case atStart => exact ⟨0, rfl, Nat.zero_le _, rfl, Ext.refl _ _⟩
  case round =>
    obtain ⟨k, rfl, hk, hp, hE⟩ := hrel
    rename World => wr
    have HE := toHid (show _ ∧ _ from ⟨hE, hp⟩)
    clear hE hp
    by_cases hkn : k < n
    · have hd := HR.out.ext0 HE.out.1
      obtain ⟨a', cap', hv, _, _, hl⟩ := hd.l_inv
      simp only [List.cons.injEq, Value.slice.injEq, and_true] at hv
      obtain ⟨rfl, _, rfl⟩ := hv
      obtain ⟨b, off, rfl, hb, hbl, hat⟩ := hl (by rw [HN.out]; omega)
      obtain ⟨x, hx⟩ : ∃ x, xs[k]? = some x := ⟨_, List.getElem?_eq_getElem (by rw [HN.out]; exact hkn)⟩
      obtain ⟨us, hu1, hu2, hu3⟩ := hat k x hx
      obtain ⟨u0, u1, u2, rfl⟩ : ∃ u0 u1 u2, us = [u0, u1, u2] := by
        match us, hu1 with
        | [u0, u1, u2], _ => exact ⟨u0, u1, u2, rfl⟩
      have c0 : wr.cell? ⟨b, off + k * 3, none⟩ = some u0 := by simpa using hu2 0 _ rfl
      have c1 : wr.cell? ⟨b, off + k * 3 + 1, none⟩ = some u1 := by simpa using hu2 1 _ rfl
      have c2 : wr.cell? ⟨b, off + k * 3 + 2, none⟩ = some u2 := by simpa using hu2 2 _ rfl
      have o0 := store_one (P := Tryz.prog) (hu3.one u0 (by simp))
      have o1 := store_one (P := Tryz.prog) (hu3.one u1 (by simp))
      have o2 := store_one (P := Tryz.prog) (hu3.one u2 (by simp))
      have HC := toHid (show ∀ w1, Ext Nope wr w1 → _ from fun w1 e1 => HS.out k w1 (.agg #[u0, u1, u2]) (by rw [HN.out]; exact hkn) (ext0 HE.out.1 e1) ⟨x, [u0, u1, u2], rfl, hx, (hu3.ext0 e1)⟩)
      have s1 : (0 : Int) ≤ (k : Int) := by omega
      have s2 : (k : Int) < (n : Int) := by omega
      clear hd hl hat hu2 hu3 hx hb hu1
      go_wp2_with fail
      refine (HC.out _ (by repeat (first | exact Ext.refl _ _ | (refine Ext.setCell (S := Nope) ?_ _ _ (fun z => absurd z (by simp)) _) | (refine Ext.alloc ?_ _)))).mono ?_
      rintro e w2 ⟨rfl, e2⟩
      have HP : Hid (firstE p (k + 1) = if firstE p k = 0 then p k else firstE p k) := rfl
      have HQ := toHid (show p k ≠ 0 → firstE p n = p k from fun h => firstE_stop hkn HE.out.2 h)
      have H2 : Hid (Ext Nope w w2) := ext0 (ext0 HE.out.1 (by repeat (first | exact Ext.refl _ _ | (refine Ext.setCell (S := Nope) ?_ _ _ (fun z => absurd z (by simp)) _) | (refine Ext.alloc ?_ _)))) e2
      clear e2 HC
      by_cases hpk : p k = 0
      · have HK : Hid (firstE p (k + 1) = 0) := by unfold Hid; rw [HP.out, HE.out.2, if_pos rfl, hpk]
        have s3 : (p k != 0) = false := by rw [hpk]; rfl
        clear hpk
        go_wp2
        go_roundw
        case rel => exact ⟨k + 1, by go_num, by omega, HK.out, H2.out⟩
        case measure => simp [intOf]; omega
      · have HK := toHid (HQ.out hpk)
        have s3 : (p k != 0) = true := by rw [bne_iff_ne]; exact hpk
        clear hpk
        go_wp2
        go_ret
        exact ⟨ret_i HK.out.symm, H2.out⟩
    · have hkk : k = n := by omega
      subst hkk
      have s2 : decide ((k : Int) < (k : Int)) = false := by simp
      go_wp2
      go_ret
      exact ⟨ret_i HE.out.2.symm, HE.out.1⟩
set_option maxHeartbeats 1000000 in
/-- font.each at abugida/api.Head -/
theorem each_heads {A : Nat → Prop} {w : World} {v : Value} {xs : List Dat} {f : FuncId} {caps : Array Value} {p : Nat → Int} (hf : Enters f) (hr : Rd A w [v] (.l 2 xs)) (hs : Checks f caps w xs.length (ElS A xs) p) :
    Calls Tryz.prog 157 #[v, .func (.func f) #[] caps] w fun e w' => e = .returned (.int .i64 (firstE p xs.length)) ∧ Ext Nope w w' := by
  have HR := toHid hr
  obtain ⟨a, cap, hv, hc1, hc2, _⟩ := hr.l_inv
  simp only [List.cons.injEq, and_true] at hv
  subst hv
  obtain ⟨n, HN⟩ : ∃ n, Hid (xs.length = n) := ⟨_, rfl⟩
  have HS := toHid hs
  rw [HN.out] at hc1 hs ⊢
  clear hr hs
  go_enter Tryz.func157, Tryz.ntmps157
  go_wp2
  go_loopw [10] (fun i wr => ∃ k : Nat, i = .int .i64 k ∧ k ≤ n ∧ firstE p k = 0 ∧ Ext Nope w wr) (fun i _ => n - (intOf i).toNat)
  case atStart => exact ⟨0, rfl, Nat.zero_le _, rfl, Ext.refl _ _⟩
  case round =>
    obtain ⟨k, rfl, hk, hp, hE⟩ := hrel
    rename World => wr
    have HE := toHid (show _ ∧ _ from ⟨hE, hp⟩)
    clear hE hp
    by_cases hkn : k < n
    · have hd := HR.out.ext0 HE.out.1
      obtain ⟨a', cap', hv, _, _, hl⟩ := hd.l_inv
      simp only [List.cons.injEq, Value.slice.injEq, and_true] at hv
      obtain ⟨rfl, _, rfl⟩ := hv
      obtain ⟨b, off, rfl, hb, hbl, hat⟩ := hl (by rw [HN.out]; omega)
      obtain ⟨x, hx⟩ : ∃ x, xs[k]? = some x := ⟨_, List.getElem?_eq_getElem (by rw [HN.out]; exact hkn)⟩
      obtain ⟨us, hu1, hu2, hu3⟩ := hat k x hx
      obtain ⟨u0, u1, rfl⟩ : ∃ u0 u1, us = [u0, u1] := by
        match us, hu1 with
        | [u0, u1], _ => exact ⟨u0, u1, rfl⟩
      have c0 : wr.cell? ⟨b, off + k * 2, none⟩ = some u0 := by simpa using hu2 0 _ rfl
      have c1 : wr.cell? ⟨b, off + k * 2 + 1, none⟩ = some u1 := by simpa using hu2 1 _ rfl
      have o0 := store_one (P := Tryz.prog) (hu3.one u0 (by simp))
      have o1 := store_one (P := Tryz.prog) (hu3.one u1 (by simp))
      have HC := toHid (show ∀ w1, Ext Nope wr w1 → _ from fun w1 e1 => HS.out k w1 (.agg #[u0, u1]) (by rw [HN.out]; exact hkn) (ext0 HE.out.1 e1) ⟨x, [u0, u1], rfl, hx, (hu3.ext0 e1)⟩)
      have s1 : (0 : Int) ≤ (k : Int) := by omega
      have s2 : (k : Int) < (n : Int) := by omega
      clear hd hl hat hu2 hu3 hx hb hu1
      go_wp2_with fail
      refine (HC.out _ (by repeat (first | exact Ext.refl _ _ | (refine Ext.setCell (S := Nope) ?_ _ _ (fun z => absurd z (by simp)) _) | (refine Ext.alloc ?_ _)))).mono ?_
      rintro e w2 ⟨rfl, e2⟩
      have HP : Hid (firstE p (k + 1) = if firstE p k = 0 then p k else firstE p k) := rfl
      have HQ := toHid (show p k ≠ 0 → firstE p n = p k from fun h => firstE_stop hkn HE.out.2 h)
      have H2 : Hid (Ext Nope w w2) := ext0 (ext0 HE.out.1 (by repeat (first | exact Ext.refl _ _ | (refine Ext.setCell (S := Nope) ?_ _ _ (fun z => absurd z (by simp)) _) | (refine Ext.alloc ?_ _)))) e2
      clear e2 HC
      by_cases hpk : p k = 0
      · have HK : Hid (firstE p (k + 1) = 0) := by unfold Hid; rw [HP.out, HE.out.2, if_pos rfl, hpk]
        have s3 : (p k != 0) = false := by rw [hpk]; rfl
        clear hpk
        go_wp2
        go_roundw
        case rel => exact ⟨k + 1, by go_num, by omega, HK.out, H2.out⟩
        case measure => simp [intOf]; omega
      · have HK := toHid (HQ.out hpk)
        have s3 : (p k != 0) = true := by rw [bne_iff_ne]; exact hpk
        clear hpk
        go_wp2
        go_ret
        exact ⟨ret_i HK.out.symm, H2.out⟩
    · have hkk : k = n := by omega
      subst hkk
      have s2 : decide ((k : Int) < (k : Int)) = false := by simp
      go_wp2
      go_ret
      exact ⟨ret_i HE.out.2.symm, HE.out.1⟩
set_option maxHeartbeats 1000000 in
/-- font.each at func(abugida/api.Core) abugida/api.Errno -/
theorem each_funcs {A : Nat → Prop} {w : World} {v : Value} {xs : List Dat} {f : FuncId} {caps : Array Value} {p : Nat → Int} (hf : Enters f) (hr : Rd A w [v] (.l 1 xs)) (hs : Checks f caps w xs.length (El1 A xs) p) :
    Calls Tryz.prog 81 #[v, .func (.func f) #[] caps] w fun e w' => e = .returned (.int .i64 (firstE p xs.length)) ∧ Ext Nope w w' := by
  have HR := toHid hr
  obtain ⟨a, cap, hv, hc1, hc2, _⟩ := hr.l_inv
  simp only [List.cons.injEq, and_true] at hv
  subst hv
  obtain ⟨n, HN⟩ : ∃ n, Hid (xs.length = n) := ⟨_, rfl⟩
  have HS := toHid hs
  rw [HN.out] at hc1 hs ⊢
  clear hr hs
  go_enter Tryz.func81, Tryz.ntmps81
  go_wp2
  go_loopw [10] (fun i wr => ∃ k : Nat, i = .int .i64 k ∧ k ≤ n ∧ firstE p k = 0 ∧ Ext Nope w wr) (fun i _ => n - (intOf i).toNat)
  case atStart => exact ⟨0, rfl, Nat.zero_le _, rfl, Ext.refl _ _⟩
  case round =>
    obtain ⟨k, rfl, hk, hp, hE⟩ := hrel
    rename World => wr
    have HE := toHid (show _ ∧ _ from ⟨hE, hp⟩)
    clear hE hp
    by_cases hkn : k < n
    · have hd := HR.out.ext0 HE.out.1
      obtain ⟨a', cap', hv, _, _, hl⟩ := hd.l_inv
      simp only [List.cons.injEq, Value.slice.injEq, and_true] at hv
      obtain ⟨rfl, _, rfl⟩ := hv
      obtain ⟨b, off, rfl, hb, hbl, hat⟩ := hl (by rw [HN.out]; omega)
      obtain ⟨x, hx⟩ : ∃ x, xs[k]? = some x := ⟨_, List.getElem?_eq_getElem (by rw [HN.out]; exact hkn)⟩
      obtain ⟨us, hu1, hu2, hu3⟩ := hat k x hx
      obtain ⟨u0, rfl⟩ : ∃ u0, us = [u0] := by
        match us, hu1 with
        | [u0], _ => exact ⟨u0, rfl⟩
      have c0 : wr.cell? ⟨b, off + k, none⟩ = some u0 := by simpa using hu2 0 _ rfl
      have o0 := store_one (P := Tryz.prog) (hu3.one u0 (by simp))
      have HC := toHid (show ∀ w1, Ext Nope wr w1 → _ from fun w1 e1 => HS.out k w1 (u0) (by rw [HN.out]; exact hkn) (ext0 HE.out.1 e1) ⟨x, hx, (hu3.ext0 e1)⟩)
      have s1 : (0 : Int) ≤ (k : Int) := by omega
      have s2 : (k : Int) < (n : Int) := by omega
      clear hd hl hat hu2 hu3 hx hb hu1
      go_wp2_with fail
      refine (HC.out _ (by repeat (first | exact Ext.refl _ _ | (refine Ext.setCell (S := Nope) ?_ _ _ (fun z => absurd z (by simp)) _) | (refine Ext.alloc ?_ _)))).mono ?_
      rintro e w2 ⟨rfl, e2⟩
      have HP : Hid (firstE p (k + 1) = if firstE p k = 0 then p k else firstE p k) := rfl
      have HQ := toHid (show p k ≠ 0 → firstE p n = p k from fun h => firstE_stop hkn HE.out.2 h)
      have H2 : Hid (Ext Nope w w2) := ext0 (ext0 HE.out.1 (by repeat (first | exact Ext.refl _ _ | (refine Ext.setCell (S := Nope) ?_ _ _ (fun z => absurd z (by simp)) _) | (refine Ext.alloc ?_ _)))) e2
      clear e2 HC
      by_cases hpk : p k = 0
      · have HK : Hid (firstE p (k + 1) = 0) := by unfold Hid; rw [HP.out, HE.out.2, if_pos rfl, hpk]
        have s3 : (p k != 0) = false := by rw [hpk]; rfl
        clear hpk
        go_wp2
        go_roundw
        case rel => exact ⟨k + 1, by go_num, by omega, HK.out, H2.out⟩
        case measure => simp [intOf]; omega
      · have HK := toHid (HQ.out hpk)
        have s3 : (p k != 0) = true := by rw [bne_iff_ne]; exact hpk
        clear hpk
        go_wp2
        go_ret
        exact ⟨ret_i HK.out.symm, H2.out⟩
    · have hkk : k = n := by omega
      subst hkk
      have s2 : decide ((k : Int) < (k : Int)) = false := by simp
      go_wp2
      go_ret
      exact ⟨ret_i HE.out.2.symm, HE.out.1⟩
end Go.Proofs.YtajebdpalnpjdaaGreatDoor
namespace Go.Proofs.YtajebdpalnpjdaaGreatDoor
open Go.RowKit
attribute [local go_sem] alloc_drewN setCell_drewN

theorem Rd.intsBlk {A : Nat → Prop} {w : World} {b T : Nat} {fz : Nat × Nat} {l : List Int} (h : w.heap[b]? = some (.cells (l.map fun n => Value.int .i64 n).toArray T fz)) (hA : A b) (hi : ∀ n ∈ l, i64 n) (hl : l.length ≤ 9223372036854775807) : Rd A w [.slice (some ⟨b, 0, none⟩) l.length l.length] (intsD l) := by
  have e : (l.map Dat.i).length = l.length := List.length_map _
  have hm : ∀ k x, (l.map Dat.i)[k]? = some x → ∃ n, l[k]? = some n ∧ x = Dat.i n := fun k x hk => by
    rw [List.getElem?_map] at hk
    obtain ⟨n, hn, rfl⟩ := Option.map_eq_some_iff.1 hk
    exact ⟨n, hn, rfl⟩
  have := Rd.list (A := A) (w := w) (sz := 1) (xs := l.map Dat.i) (some ⟨b, 0, none⟩) l.length b 0 (fun k => [.int .i64 (l.getD k 0)]) (by rw [e]; exact Nat.le_refl _) hl (fun _ => ⟨rfl, hA, lt_of_heap h⟩) (fun _ _ _ => rfl)
    (fun k x hk j u hu => by
      obtain ⟨n, hn, rfl⟩ := hm k x hk
      match j, hu with
      | 0, hu =>
        simp only [List.getElem?_cons_zero, Option.some.injEq] at hu
        rw [show (⟨b, 0 + k * 1 + 0, none⟩ : Addr) = at_ b k by simp, cell_of_blk h]
        simp [hn, ← hu, List.getD_eq_getElem?_getD])
    (fun k x hk => by
      obtain ⟨n, hn, rfl⟩ := hm k x hk
      rw [List.getD_eq_getElem?_getD, hn]
      exact .int n (hi n (List.mem_of_getElem? hn)))
  rw [e] at this
  exact this
theorem El1.int {A : Nat → Prop} {l : List Int} {k : Nat} {w : World} {u : Value} (h : El1 A (l.map Dat.i) k w u) : ∃ n, l[k]? = some n ∧ u = .int .i64 n ∧ i64 n := by
  obtain ⟨x, hx, hr⟩ := h
  rw [List.getElem?_map] at hx
  obtain ⟨n, hn, rfl⟩ := Option.map_eq_some_iff.1 hx
  obtain ⟨he, hi⟩ := hr.i_inv
  exact ⟨n, hn, by simpa using he, hi⟩
/-- font.within -/
theorem fwithin_calls (n a b : Int) (w : World) : Calls Tryz.prog 142 #[.int .i64 n, .int .i64 a, .int .i64 b] w fun e w' => e = .returned (.bool (decide (a ≤ n) && decide (n ≤ b))) ∧ w = w' := by
  by_cases h1 : a ≤ n <;> by_cases h2 : n ≤ b
  all_goals
    go_enter Tryz.func142, Tryz.ntmps142
    go_wp2
    go_ret
    exact ⟨ret_b (by simp [h1, h2]), rfl⟩
theorem ent_within1 : Enters 222 := enters_of Tryz.func222 (by kernel_rfl) rfl
/-- the closure of outline.within -/
theorem within1_calls (n most : Int) (m : Nat) (w : World) (h0 : 0 ≤ most) (h1 : most ≤ 1000) (hm : w.cell? ⟨m, 0, none⟩ = some (.int .i64 most)) : Calls Tryz.prog 222 #[.int .i64 n, ptr m] w fun e w' => e = .returned (.bool (decide (n < -most) || decide (most < n))) ∧ w = w' := by
  by_cases h2 : n < -most <;> by_cases h3 : most < n
  all_goals
    go_enter Tryz.func222, Tryz.ntmps222
    go_wp2
    go_ret
    exact ⟨ret_b (by simp [h2, h3]), rfl⟩
def inM (most n : Int) : Bool := decide (-most ≤ n) && decide (n ≤ most)
theorem inM_not (most n : Int) : (decide (n < -most) || decide (most < n)) = !inM most n := by
  unfold inM
  rw [Bool.eq_iff_iff]
  simp
/-- outline.within -/
theorem within_calls {A : Nat → Prop} {w : World} {v : Value} {l : List Int} {most : Int} (h0 : 0 ≤ most) (h1 : most ≤ 1000) (hr : Rd A w [v] (intsD l)) :
    Calls Tryz.prog 173 #[.int .i64 most, v] w fun e w' => e = .returned (.bool (l.all (inM most))) ∧ Ext Nope w w' := by
  have HR := toHid hr
  obtain ⟨a, cap, hv, hc1, hc2, _⟩ := hr.ints_inv
  subst hv
  clear hr
  go_enter Tryz.func173, Tryz.ntmps173
  go_wp2_with fail
  have e1 : Ext Nope w (w.alloc (.cells #[.int .i64 most] 3)) := (Ext.refl _ _).alloc _
  have hb := heap_alloc_new w (.cells #[.int .i64 most] 3)
  have hr1 := HR.out.ext0 e1
  have HH := toHid (has_ints (p := fun k => !inM most (l.getD k 0)) ent_within1 hr1 (caps := #[ptr w.heap.size]) (fun k W u hk hE hu => by
    obtain ⟨n, hn, rfl, hi⟩ := hu.int
    have hc : W.cell? ⟨w.heap.size, 0, none⟩ = some (.int .i64 most) := by
      rw [show (⟨w.heap.size, 0, none⟩ : Addr) = at_ w.heap.size 0 from rfl, cell_of_blk ((hE.block _ (lt_of_heap hb) (fun z => z)).trans hb)]; rfl
    refine (within1_calls n most w.heap.size W h0 h1 hc).mono fun e W' ⟨he, hw⟩ => ?_
    subst hw
    refine ⟨?_, Ext.refl _ _⟩
    rw [he, inM_not]
    show Ending.returned (Value.bool (!inM most n)) = Ending.returned (Value.bool (!inM most (l.getD k 0)))
    rw [List.getD_eq_getElem?_getD, hn]
    rfl))
  have HE := toHid e1
  clear hb hr1 e1
  refine HH.out.mono ?_
  rintro e w2 ⟨rfl, e2⟩
  have H2 : Hid (Ext Nope w w2) := ext0 HE.out e2
  have HA : Hid (anyN (fun k => !inM most (l.getD k 0)) (l.map Dat.i).length = !l.all (inM most)) := by
    unfold Hid
    rw [List.length_map, anyN_list l _ (fun n => !inM most n) (fun k x hx => by rw [List.getD_eq_getElem?_getD, hx]; rfl)]
    exact (List.not_all_eq_any_not ..).symm
  rw [HA.out]
  clear e2 HH
  go_wp2
  go_ret
  exact ⟨ret_b (by simp), H2.out⟩
end Go.Proofs.YtajebdpalnpjdaaGreatDoor
namespace Go.Proofs.YtajebdpalnpjdaaGreatDoor
open Go.RowKit
attribute [local go_sem] alloc_drewN setCell_drewN

def ptOk (p : PtA) : Bool := [p.x, p.y].all (inM 128)
def contourOk (c : List PtA) : Bool := decide (3 ≤ c.length) && c.all ptOk
def sumL (l : List (List PtA)) : Nat := (l.map List.length).sum
/-- A glyph that has neither anchors nor deltas. -/
structure Plain (g : GlyphA) : Prop where
  anchors : g.anchors = []
  hang : g.hang = ⟨0, 0, 0⟩
  deltas : g.deltas = []
theorem Rd.pt {A : Nat → Prop} {w : World} {cs : List Value} {p : PtA} (h : Rd A w cs (ptD p)) : cs = [.int .i64 p.x, .int .i64 p.y, .bool p.on] ∧ i64 p.x ∧ i64 p.y := by
  obtain ⟨c1, rfl, h1, h⟩ := Rd.ri h
  obtain ⟨c2, rfl, h2, h⟩ := Rd.ri h
  obtain ⟨c3, rfl, k3⟩ := Rd.rb h
  obtain rfl := k3.r_nil
  exact ⟨rfl, h1, h2⟩
theorem Rd.glyph {A : Nat → Prop} {w : World} {cs : List Value} {g : GlyphA} (h : Rd A w cs (glyphD g)) : ∃ v0 v1 v6 v7, cs = [v0, v1, .int .i64 g.hang.cls, .int .i64 g.hang.x, .int .i64 g.hang.y, .int .i64 g.advance, v6, v7] ∧ Rd A w [v0] (.l 1 (g.contours.map contourD)) ∧
    Rd A w [v1] (.l 3 (g.anchors.map fun a => .r (anchorL a))) ∧ i64 g.advance ∧ Rd A w [v6] (.l 3 (g.deltas.map deltaD)) ∧ Rd A w [v7] (.l 2 (g.program.map pairD)) := by
  obtain ⟨v0, _, rfl, h0, h⟩ := Rd.rl h
  obtain ⟨v1, _, rfl, h1, h⟩ := Rd.rl h
  obtain ⟨_, rfl, _, h⟩ := Rd.ri h
  obtain ⟨_, rfl, _, h⟩ := Rd.ri h
  obtain ⟨_, rfl, _, h⟩ := Rd.ri h
  obtain ⟨_, rfl, h5, h⟩ := Rd.ri h
  obtain ⟨v6, _, rfl, h6, h⟩ := Rd.rl h
  obtain ⟨v7, _, rfl, h7, h⟩ := Rd.rl h
  obtain rfl := h.r_nil
  exact ⟨v0, v1, v6, v7, rfl, h0, h1, h5, h6, h7⟩
theorem ent_pt : Enters 172 := enters_of Tryz.func172 (by kernel_rfl) rfl
theorem ent_contour : Enters 170 := enters_of Tryz.func170 (by kernel_rfl) rfl
/-- the inner closure of outline.contours -/
theorem pt_calls (p : PtA) (w : World) (h1 : i64 p.x) (h2 : i64 p.y) : Calls Tryz.prog 172 #[.agg #[.int .i64 p.x, .int .i64 p.y, .bool p.on]] w fun e w' => e = .returned (.bool (!ptOk p)) ∧ Ext Nope w w' := by
  go_enter Tryz.func172, Tryz.ntmps172
  go_wp2_with fail
  have e1 : Ext Nope w ((w.alloc (.cells #[.int .i64 p.x, .int .i64 p.y, .bool p.on] 50)).alloc (.cells #[.int .i64 p.x, .int .i64 p.y] 3)) := ((Ext.refl _ _).alloc _).alloc _
  have hb := heap_alloc_at (w.alloc (.cells #[.int .i64 p.x, .int .i64 p.y, .bool p.on] 50)) (.cells #[.int .i64 p.x, .int .i64 p.y] 3) (w.heap.size + 1) (by simp)
  have hr : Rd (fun _ => True) _ _ (intsD [p.x, p.y]) := Rd.intsBlk (l := [p.x, p.y]) hb trivial (fun n hn => by simp at hn; rcases hn with rfl | rfl <;> assumption) (by simp)
  have HW := toHid (within_calls (most := 128) (by omega) (by omega) hr)
  have HE := toHid e1
  clear hb hr e1
  refine HW.out.mono ?_
  rintro e w2 ⟨rfl, e2⟩
  have H2 : Hid (Ext Nope w w2) := ext0 HE.out e2
  clear e2 HW
  go_wp2
  go_ret
  exact ⟨ret_b (by simp [ptOk]), H2.out⟩
theorem ElS.pt {A : Nat → Prop} {c : List PtA} {k : Nat} {w : World} {u : Value} (h : ElS A (c.map ptD) k w u) : ∃ p, c[k]? = some p ∧ u = .agg #[.int .i64 p.x, .int .i64 p.y, .bool p.on] ∧ i64 p.x ∧ i64 p.y := by
  obtain ⟨x, cs, rfl, hx, hr⟩ := h
  rw [List.getElem?_map] at hx
  obtain ⟨p, hp, rfl⟩ := Option.map_eq_some_iff.1 hx
  obtain ⟨rfl, h1, h2⟩ := hr.pt
  exact ⟨p, hp, rfl, h1, h2⟩
/-- the closure of outline.contours -/
theorem contour_calls {A : Nat → Prop} {w : World} {v : Value} {c : List PtA} (hr : Rd A w [v] (contourD c)) : Calls Tryz.prog 170 #[v] w fun e w' => e = .returned (.bool (!contourOk c)) ∧ Ext Nope w w' := by
  have HH := toHid (has_points (p := fun k => !ptOk (c.getD k ⟨0, 0, false⟩)) ent_pt hr (caps := #[]) (fun k W u hk hE hu => by
    obtain ⟨p, hp, rfl, h1, h2⟩ := hu.pt
    refine (pt_calls p W h1 h2).mono fun e W' ⟨he, hw⟩ => ⟨?_, hw⟩
    rw [he]
    show _ = Ending.returned (Value.bool (!ptOk (c.getD k ⟨0, 0, false⟩)))
    rw [List.getD_eq_getElem?_getD, hp]
    rfl))
  have HA : Hid (anyN (fun k => !ptOk (c.getD k ⟨0, 0, false⟩)) (c.map ptD).length = !c.all ptOk) := by
    unfold Hid
    rw [List.length_map, anyN_list c _ (fun n => !ptOk n) (fun k x hx => by rw [List.getD_eq_getElem?_getD, hx]; rfl)]
    exact (List.not_all_eq_any_not ..).symm
  rw [HA.out] at HH
  obtain ⟨a, cap, hv, hc, _⟩ := hr.len
  rw [List.length_map] at hv
  subst hv
  obtain ⟨n, HN⟩ : ∃ n, Hid (c.length = n) := ⟨_, rfl⟩
  rw [HN.out] at HH ⊢
  clear hr hc
  by_cases h3 : n < 3
  · have h3' : (n : Int) < 3 := by omega
    have HF : Hid (contourOk c = false) := by unfold Hid contourOk; rw [HN.out, decide_eq_false (by omega)]; rfl
    go_enter Tryz.func170, Tryz.ntmps170
    go_wp2
    go_ret
    exact ⟨ret_b (by rw [HF.out]; rfl), Ext.refl _ _⟩
  · have h3' : ¬ (n : Int) < 3 := by omega
    have HF : Hid (contourOk c = c.all ptOk) := by unfold Hid contourOk; rw [HN.out, decide_eq_true (by omega)]; rfl
    go_enter Tryz.func170, Tryz.ntmps170
    go_wp2_with fail
    refine HH.out.mono ?_
    rintro e w2 ⟨rfl, e2⟩
    have H2 := toHid e2
    clear e2 HH
    go_wp2
    go_ret
    exact ⟨ret_b (by rw [HF.out]), H2.out⟩
/-- outline.contours -/
theorem contours_calls {A : Nat → Prop} {w : World} {v : Value} {l : List (List PtA)} (hr : Rd A w [v] (.l 1 (l.map contourD))) : Calls Tryz.prog 85 #[v] w fun e w' => e = .returned (.bool (l.all contourOk)) ∧ Ext Nope w w' := by
  have HH := toHid (has_contours (p := fun k => !contourOk (l.getD k [])) ent_contour hr (caps := #[]) (fun k W u hk hE hu => by
    obtain ⟨x, hx, hr⟩ := hu
    rw [List.getElem?_map] at hx
    obtain ⟨c, hc, rfl⟩ := Option.map_eq_some_iff.1 hx
    refine (contour_calls hr).mono fun e W' ⟨he, hw⟩ => ⟨?_, hw⟩
    rw [he]
    show _ = Ending.returned (Value.bool (!contourOk (l.getD k [])))
    rw [List.getD_eq_getElem?_getD, hc]
    rfl))
  have HA : Hid (anyN (fun k => !contourOk (l.getD k [])) (l.map contourD).length = !l.all contourOk) := by
    unfold Hid
    rw [List.length_map, anyN_list l _ (fun n => !contourOk n) (fun k x hx => by rw [List.getD_eq_getElem?_getD, hx]; rfl)]
    exact (List.not_all_eq_any_not ..).symm
  rw [HA.out] at HH
  clear hr
  go_enter Tryz.func85, Tryz.ntmps85
  go_wp2_with fail
  refine HH.out.mono ?_
  rintro e w2 ⟨rfl, e2⟩
  have H2 := toHid e2
  clear e2 HH
  go_wp2
  go_ret
  exact ⟨ret_b (by simp), H2.out⟩
theorem sumL_take {l : List (List PtA)} {k : Nat} {c : List PtA} (h : l[k]? = some c) : sumL (l.take (k + 1)) = sumL (l.take k) + c.length := by
  unfold sumL
  have hk := (List.getElem?_eq_some_iff.1 h).1
  rw [List.take_succ_eq_append_getElem hk, (List.getElem?_eq_some_iff.1 h).2]
  simp
theorem sumL_le (l : List (List PtA)) (k : Nat) : sumL (l.take k) ≤ sumL l := by
  have e : sumL l = sumL (l.take k) + sumL (l.drop k) := by
    unfold sumL
    rw [← List.sum_append, ← List.map_append, List.take_append_drop]
  omega
set_option maxHeartbeats 1000000 in
/-- outline.Points -/
theorem points_calls {A : Nat → Prop} {w : World} {cs : List Value} {g : GlyphA} (hp : Plain g) (hr : Rd A w cs (glyphD g)) (hb : sumL g.contours ≤ 1000000) : Calls Tryz.prog 84 #[.agg cs.toArray] w fun e w' => e = .returned (.int .i64 (1 + sumL g.contours)) ∧ Ext Nope w w' := by
  obtain ⟨v0, v1, v6, v7, rfl, h0, h1, h5, h6, h7⟩ := hr.glyph
  rw [hp.anchors] at h1
  obtain ⟨a1, cap1, hv1, _⟩ := h1.len
  subst hv1
  have H0 := toHid h0
  obtain ⟨a0, cap0, hv0, hc0, _⟩ := h0.len
  rw [List.length_map] at hv0 hc0
  subst hv0
  obtain ⟨n, HN⟩ : ∃ n, Hid (g.contours.length = n) := ⟨_, rfl⟩
  rw [HN.out] at hc0 ⊢
  have HB := toHid hb
  clear hr h0 h1 h5 h6 h7 hb
  simp only [List.map_nil, List.length_nil]
  go_enter Tryz.func84, Tryz.ntmps84
  go_wp2_with fail
  have e1 : Ext Nope w (w.alloc (.cells #[.slice a0 n cap0, .slice a1 0 cap1, .int .i64 g.hang.cls, .int .i64 g.hang.x, .int .i64 g.hang.y, .int .i64 g.advance, v6, v7] 47)) := (Ext.refl _ _).alloc _
  have HE := toHid e1
  clear e1
  go_loop [3, 13] (fun s i => ∃ k : Nat, i = .int .i64 k ∧ k ≤ n ∧ s = .int .i64 ((1 + sumL (g.contours.take k) : Nat) : Int)) (fun _ i => n - (intOf i).toNat)
  case atStart => exact ⟨0, rfl, Nat.zero_le _, rfl⟩
  case round =>
    obtain ⟨k, rfl, hk, rfl⟩ := hrel
    by_cases hkn : k < n
    · have hd := H0.out.ext0 HE.out
      obtain ⟨a', cap', hv, _, _, hl⟩ := hd.l_inv
      simp only [List.cons.injEq, Value.slice.injEq, and_true] at hv
      obtain ⟨rfl, _, rfl⟩ := hv
      obtain ⟨b, off, rfl, hbA, hbl, hat⟩ := hl (by rw [List.length_map, HN.out]; omega)
      obtain ⟨c, hc⟩ : ∃ c, g.contours[k]? = some c := ⟨_, List.getElem?_eq_getElem (by rw [HN.out]; exact hkn)⟩
      obtain ⟨us, hu1, hu2, hu3⟩ := hat k (contourD c) (by rw [List.getElem?_map, hc]; rfl)
      obtain ⟨a2, cap2, hus, hc2, hc3, _⟩ := hu3.l_inv
      rw [List.length_map] at hus hc2
      subst hus
      have c0 := hu2 0 _ rfl
      rw [Nat.mul_one, Nat.add_zero] at c0
      have hs := sumL_take hc
      have hle := sumL_le g.contours k
      have hle2 := sumL_le g.contours (k + 1)
      have hB := HB.out
      generalize sumL (g.contours.take k) = S at *
      obtain ⟨m, HM⟩ : ∃ m, Hid (c.length = m) := ⟨_, rfl⟩
      rw [HM.out] at c0 hc2 hs
      have hm : m ≤ 1000000 := by omega
      have hS : S + m ≤ 1000000 := by omega
      have HS := toHid hs
      have s1 : (0 : Int) ≤ (k : Int) := by omega
      have s2 : (k : Int) < (n : Int) := by omega
      have s3 : IntKind.i64.wrap (1 + (S : Int) + (m : Int)) = 1 + (S : Int) + (m : Int) := IntWalk.i64_in _ (by omega)
      clear hd hl hat hu2 hu3 hbA hbl hu1 hc hs hle hle2 hB
      go_wp2
      go_round
      case rel => exact ⟨k + 1, by go_num, by omega, by rw [HS.out]; go_num⟩
      case measure => simp [intOf]; omega
    · have hkk : k = n := by omega
      subst hkk
      have HT : Hid (sumL (g.contours.take k) = sumL g.contours) := by unfold Hid; rw [List.take_of_length_le (by rw [HN.out]; exact Nat.le_refl _)]
      rw [HT.out]
      have s2 : decide ((k : Int) < (k : Int)) = false := by simp
      go_wp2
      go_ret
      exact ⟨ret_i (by simp), HE.out⟩
end Go.Proofs.YtajebdpalnpjdaaGreatDoor
