/-
  What a function writes of each element of a list.
-/
import Derived.Test.YtajebdpalnpjdaaGreatDoorM23
import Derived.Test.YtajebdpalnpjdaaGreatDoorM02
namespace Go.Proofs.YtajebdpalnpjdaaGreatDoor
open Go.RowKit
attribute [local go_sem] alloc_drewN setCell_drewN

theorem infoStr : (Tryz.prog.info? 9).map (fun i => (i.zero, i.size, i.bytes)) = some (some (.string .empty), 1, 16) := by kernel_rfl
/-- A slice of strings of one's own. -/
def OwnS (w : World) (base : Nat) (v : Value) (ss : List ByteArray) : Prop := w.ownsRow base 9 1 v ss.length (ss.map .string)
theorem OwnS.ext0 {w w' : World} {base : Nat} {v : Value} {c : List ByteArray} (h : OwnS w base v c) (e : Ext Nope w w') : OwnS w' base v c := own_ext h e (fun _ _ z => z)
theorem OwnS.mono {w : World} {b b' : Nat} {v : Value} {c : List ByteArray} (h : OwnS w b v c) (hb : b' ≤ b) : OwnS w b' v c := own_base h (fun g hg => Nat.le_trans hb (World.ownsRow.lt h g hg).1)
theorem OwnS.nil (w : World) (base : Nat) : OwnS w base (.slice none 0 0) [] := ⟨rfl, .inl ⟨rfl, rfl⟩⟩
theorem OwnS.snoc {w : World} {base : Nat} {v : Value} {c : List ByteArray} {k : Nat} {s : ByteArray} (h : w.ownsRow base 9 1 v (k + 1) ((c.take k).map .string ++ [.string s])) (hn : c[k]? = some s) : OwnS w base v (c.take (k + 1)) := by
  have hk := (List.getElem?_eq_some_iff.1 hn).1
  have e : c.take (k + 1) = c.take k ++ [s] := by rw [List.take_succ_eq_append_getElem hk, (List.getElem?_eq_some_iff.1 hn).2]
  unfold OwnS
  rw [e, show (c.take k ++ [s]).length = k + 1 by simp; omega, List.map_append]
  exact h
theorem OwnS.rd {A : Nat → Prop} {w : World} {base : Nat} {v : Value} {c : List ByteArray} (h : OwnS w base v c) (hA : ∀ b, base ≤ b → A b) (hi : ∀ s ∈ c, s.size ≤ maxLen) : Rd A w [v] (.l 1 (c.map .s)) := by
  refine Rd.own (xs := c.map .s) (by unfold OwnS at h; simpa using h) (fun g hg => hA g (World.ownsRow.lt h g hg).1) fun k x hk => ?_
  rw [List.getElem?_map] at hk
  obtain ⟨s, hs, rfl⟩ := Option.map_eq_some_iff.1 hk
  have hk := (List.getElem?_eq_some_iff.1 hs).1
  have e : ((c.map Value.string).drop (k * 1)).take 1 = [.string s] := by
    rw [Nat.mul_one, List.drop_eq_getElem_cons (by simpa using hk)]
    simp [(List.getElem?_eq_some_iff.1 hs).2]
  rw [e]
  exact .str _ (hi s (List.mem_of_getElem? hs))
/-- What a function writes of each element, whatever else was made before. -/
def Writes (f : FuncId) (caps : Array Value) (w : World) (elem : Nat → World → Value → Prop) (ss : List ByteArray) : Prop :=
  ∀ (k : Nat) (W : World) (u : Value) (s : ByteArray), ss[k]? = some s → Ext Nope w W → elem k W u → Calls Tryz.prog f (#[u] ++ caps) W fun e W' => e = .returned (.string s) ∧ Ext Nope W W'
theorem Writes.ext {f : FuncId} {caps : Array Value} {w w' : World} {elem : Nat → World → Value → Prop} {ss : List ByteArray} (h : Writes f caps w elem ss) (e : Ext Nope w w') : Writes f caps w' elem ss := fun k W u s hk hE hu => h k W u s hk (ext0 e hE) hu
set_option maxHeartbeats 2000000 in
/-- source.each at int -/
theorem writes_ints {A : Nat → Prop} {w : World} {v : Value} {xs : List Dat} {f : FuncId} {caps : Array Value} {ss : List ByteArray} (hf : Enters f) (hr : Rd A w [v] (.l 1 xs)) (hlen : ss.length = xs.length) (hl : xs.length ≤ 100000) (hs : Writes f caps w (El1 A xs) ss) :
    Calls Tryz.prog 98 #[v, .func (.func f) #[] caps] w fun e w' => ∃ v', e = .returned v' ∧ OwnS w' w.heap.size v' ss ∧ Ext Nope w w' := by
  have HR := toHid hr
  obtain ⟨a, cap, hv, hc1, hc2, _⟩ := hr.l_inv
  simp only [List.cons.injEq, and_true] at hv
  subst hv
  obtain ⟨n, HN⟩ : ∃ n, Hid (xs.length = n) := ⟨_, rfl⟩
  have HS := toHid hs
  have HM : Hid (ss.length = n) := hlen.trans HN.out
  rw [HN.out] at hc1 hl ⊢
  clear hr hs hlen
  obtain ⟨i0, hi, hz0, hz1, hz2⟩ := info_parts infoStr
  have HI := toHid (show _ ∧ _ ∧ _ ∧ _ from ⟨hi, hz0, hz1, hz2⟩)
  clear hi hz0 hz1 hz2
  go_enter Tryz.func98, Tryz.ntmps98
  go_wp2_with fail
  go_loopw [5, 10] (fun o i wr => ∃ k : Nat, i = .int .i64 k ∧ k ≤ n ∧ OwnS wr w.heap.size o (ss.take k) ∧ Ext Nope w wr) (fun _ i _ => n - (intOf i).toNat)
  case atStart => exact ⟨0, rfl, Nat.zero_le _, OwnS.nil _ _, Ext.refl _ _⟩
  case round =>
    obtain ⟨k, rfl, hk, hO, hE⟩ := hrel
    rename World => wr
    have HK := toHid (show _ ∧ _ from ⟨hO, hE⟩)
    obtain ⟨av, cv, hv, _⟩ := own_gen (show wr.ownsRow w.heap.size 9 1 u5 (ss.take k).length _ from hO)
    rw [List.length_take, HM.out, Nat.min_eq_left hk] at hv
    subst hv
    clear hO hE
    by_cases hkn : k < n
    · have hd := HR.out.ext0 HK.out.2
      obtain ⟨a', cap', hv, _, _, hll⟩ := hd.l_inv
      simp only [List.cons.injEq, Value.slice.injEq, and_true] at hv
      obtain ⟨rfl, _, rfl⟩ := hv
      obtain ⟨b, off, rfl, hb, hbl, hat⟩ := hll (by rw [HN.out]; omega)
      obtain ⟨x, hx⟩ : ∃ x, xs[k]? = some x := ⟨_, List.getElem?_eq_getElem (by rw [HN.out]; exact hkn)⟩
      obtain ⟨s, hss⟩ : ∃ s, ss[k]? = some s := ⟨_, List.getElem?_eq_getElem (by rw [HM.out]; exact hkn)⟩
      obtain ⟨us, hu1, hu2, hu3⟩ := hat k x hx
      obtain ⟨u0, rfl⟩ : ∃ u0, us = [u0] := by
        match us, hu1 with
        | [u0], _ => exact ⟨u0, rfl⟩
      have c0 : wr.cell? ⟨b, off + k, none⟩ = some u0 := by simpa using hu2 0 _ rfl
      have o0 := store_one (P := Tryz.prog) (hu3.one u0 (by simp))
      have HC := toHid (show ∀ w1, Ext Nope wr w1 → _ from fun w1 e1 => HS.out k w1 (u0) s hss (ext0 HK.out.2 e1) ⟨x, hx, (hu3.ext0 e1)⟩)
      have HP := toHid hss
      have s1 : (0 : Int) ≤ (k : Int) := by omega
      have s2 : (k : Int) < (n : Int) := by omega
      clear hd hll hat hu2 hu3 hx hb hu1 hss
      go_wp2_with fail
      refine (HC.out _ (by repeat (first | exact Ext.refl _ _ | (refine Ext.setCell (S := Nope) ?_ _ _ (fun z => absurd z (by simp)) _) | (refine Ext.alloc ?_ _)))).mono ?_
      rintro e w2 ⟨rfl, e2⟩
      have E2 : Hid (Ext Nope wr w2) := ext0 (by repeat (first | exact Ext.refl _ _ | (refine Ext.setCell (S := Nope) ?_ _ _ (fun z => absurd z (by simp)) _) | (refine Ext.alloc ?_ _))) e2
      have HO2 : Hid (OwnS w2 w.heap.size (.slice av k cv) (ss.take k)) := own_ext HK.out.1 E2.out (fun _ _ z => z)
      have H2 : Hid (Ext Nope w w2) := ext0 HK.out.2 E2.out
      have hown : w2.ownsRow w.heap.size 9 1 (.slice av k cv) k ((ss.take k).map .string) := by
        have h := HO2.out
        unfold OwnS at h
        rw [List.length_take, HM.out, Nat.min_eq_left hk] at h
        exact h
      clear e2 HC
      obtain ⟨hi, hz0, hz1, hz2⟩ := HI.out
      go_wp2_with (first | (at_builtin; refine wpList_append_own _ rfl (.tmp 14) (.tmp 18) 59 rfl w.heap.size 9 i0 _ 1 16 Tryz.underlying59 hi hz0 hz1 hz2 rfl (by decide) _ _ _ rfl (hown.alloc _) ⟨w2.heap.size, 0, none⟩ 1 1 [.string s] rfl rfl (blk_at (heap_alloc_new w2 _)) (by intro u hu; simp at hu; subst hu; rfl) (by unfold maxLen; omega) (by omega) (by have h1 := H2.out.size; simp; omega) ?_))
      intro v' w' hown' hgrow _
      have HW := toHid (show _ ∧ _ from ⟨OwnS.snoc (by rw [List.map_take]; exact hown') HP.out, Ext.grown (H2.out.alloc _) hgrow (fun g hg hlt => absurd hlt (by have := (World.ownsRow.lt hown g hg).1; omega))⟩)
      clear hown' hgrow hown hi hz0 hz1 hz2
      go_wp2
      go_roundw
      case rel => exact ⟨k + 1, by go_num, by omega, HW.out⟩
      case measure => simp [intOf]; omega
    · have hkk : k = n := by omega
      subst hkk
      have s2 : decide ((k : Int) < (k : Int)) = false := by simp
      go_wp2
      go_ret
      refine ⟨_, rfl, ?_, HK.out.2⟩
      have h := HK.out.1
      rwa [List.take_of_length_le (by rw [HM.out]; exact Nat.le_refl _)] at h
set_option maxHeartbeats 2000000 in
/-- source.each at []int -/
theorem writes_sets {A : Nat → Prop} {w : World} {v : Value} {xs : List Dat} {f : FuncId} {caps : Array Value} {ss : List ByteArray} (hf : Enters f) (hr : Rd A w [v] (.l 1 xs)) (hlen : ss.length = xs.length) (hl : xs.length ≤ 100000) (hs : Writes f caps w (El1 A xs) ss) :
    Calls Tryz.prog 102 #[v, .func (.func f) #[] caps] w fun e w' => ∃ v', e = .returned v' ∧ OwnS w' w.heap.size v' ss ∧ Ext Nope w w' := by
  have HR := toHid hr
  obtain ⟨a, cap, hv, hc1, hc2, _⟩ := hr.l_inv
  simp only [List.cons.injEq, and_true] at hv
  subst hv
  obtain ⟨n, HN⟩ : ∃ n, Hid (xs.length = n) := ⟨_, rfl⟩
  have HS := toHid hs
  have HM : Hid (ss.length = n) := hlen.trans HN.out
  rw [HN.out] at hc1 hl ⊢
  clear hr hs hlen
  obtain ⟨i0, hi, hz0, hz1, hz2⟩ := info_parts infoStr
  have HI := toHid (show _ ∧ _ ∧ _ ∧ _ from ⟨hi, hz0, hz1, hz2⟩)
  clear hi hz0 hz1 hz2
  go_enter Tryz.func102, Tryz.ntmps102
  go_wp2_with fail
  go_loopw [5, 10] (fun o i wr => ∃ k : Nat, i = .int .i64 k ∧ k ≤ n ∧ OwnS wr w.heap.size o (ss.take k) ∧ Ext Nope w wr) (fun _ i _ => n - (intOf i).toNat)
  case atStart => exact ⟨0, rfl, Nat.zero_le _, OwnS.nil _ _, Ext.refl _ _⟩
  case round =>
    obtain ⟨k, rfl, hk, hO, hE⟩ := hrel
    rename World => wr
    have HK := toHid (show _ ∧ _ from ⟨hO, hE⟩)
    obtain ⟨av, cv, hv, _⟩ := own_gen (show wr.ownsRow w.heap.size 9 1 u5 (ss.take k).length _ from hO)
    rw [List.length_take, HM.out, Nat.min_eq_left hk] at hv
    subst hv
    clear hO hE
    by_cases hkn : k < n
    · have hd := HR.out.ext0 HK.out.2
      obtain ⟨a', cap', hv, _, _, hll⟩ := hd.l_inv
      simp only [List.cons.injEq, Value.slice.injEq, and_true] at hv
      obtain ⟨rfl, _, rfl⟩ := hv
      obtain ⟨b, off, rfl, hb, hbl, hat⟩ := hll (by rw [HN.out]; omega)
      obtain ⟨x, hx⟩ : ∃ x, xs[k]? = some x := ⟨_, List.getElem?_eq_getElem (by rw [HN.out]; exact hkn)⟩
      obtain ⟨s, hss⟩ : ∃ s, ss[k]? = some s := ⟨_, List.getElem?_eq_getElem (by rw [HM.out]; exact hkn)⟩
      obtain ⟨us, hu1, hu2, hu3⟩ := hat k x hx
      obtain ⟨u0, rfl⟩ : ∃ u0, us = [u0] := by
        match us, hu1 with
        | [u0], _ => exact ⟨u0, rfl⟩
      have c0 : wr.cell? ⟨b, off + k, none⟩ = some u0 := by simpa using hu2 0 _ rfl
      have o0 := store_one (P := Tryz.prog) (hu3.one u0 (by simp))
      have HC := toHid (show ∀ w1, Ext Nope wr w1 → _ from fun w1 e1 => HS.out k w1 (u0) s hss (ext0 HK.out.2 e1) ⟨x, hx, (hu3.ext0 e1)⟩)
      have HP := toHid hss
      have s1 : (0 : Int) ≤ (k : Int) := by omega
      have s2 : (k : Int) < (n : Int) := by omega
      clear hd hll hat hu2 hu3 hx hb hu1 hss
      go_wp2_with fail
      refine (HC.out _ (by repeat (first | exact Ext.refl _ _ | (refine Ext.setCell (S := Nope) ?_ _ _ (fun z => absurd z (by simp)) _) | (refine Ext.alloc ?_ _)))).mono ?_
      rintro e w2 ⟨rfl, e2⟩
      have E2 : Hid (Ext Nope wr w2) := ext0 (by repeat (first | exact Ext.refl _ _ | (refine Ext.setCell (S := Nope) ?_ _ _ (fun z => absurd z (by simp)) _) | (refine Ext.alloc ?_ _))) e2
      have HO2 : Hid (OwnS w2 w.heap.size (.slice av k cv) (ss.take k)) := own_ext HK.out.1 E2.out (fun _ _ z => z)
      have H2 : Hid (Ext Nope w w2) := ext0 HK.out.2 E2.out
      have hown : w2.ownsRow w.heap.size 9 1 (.slice av k cv) k ((ss.take k).map .string) := by
        have h := HO2.out
        unfold OwnS at h
        rw [List.length_take, HM.out, Nat.min_eq_left hk] at h
        exact h
      clear e2 HC
      obtain ⟨hi, hz0, hz1, hz2⟩ := HI.out
      go_wp2_with (first | (at_builtin; refine wpList_append_own _ rfl (.tmp 14) (.tmp 18) 59 rfl w.heap.size 9 i0 _ 1 16 Tryz.underlying59 hi hz0 hz1 hz2 rfl (by decide) _ _ _ rfl (hown.alloc _) ⟨w2.heap.size, 0, none⟩ 1 1 [.string s] rfl rfl (blk_at (heap_alloc_new w2 _)) (by intro u hu; simp at hu; subst hu; rfl) (by unfold maxLen; omega) (by omega) (by have h1 := H2.out.size; simp; omega) ?_))
      intro v' w' hown' hgrow _
      have HW := toHid (show _ ∧ _ from ⟨OwnS.snoc (by rw [List.map_take]; exact hown') HP.out, Ext.grown (H2.out.alloc _) hgrow (fun g hg hlt => absurd hlt (by have := (World.ownsRow.lt hown g hg).1; omega))⟩)
      clear hown' hgrow hown hi hz0 hz1 hz2
      go_wp2
      go_roundw
      case rel => exact ⟨k + 1, by go_num, by omega, HW.out⟩
      case measure => simp [intOf]; omega
    · have hkk : k = n := by omega
      subst hkk
      have s2 : decide ((k : Int) < (k : Int)) = false := by simp
      go_wp2
      go_ret
      refine ⟨_, rfl, ?_, HK.out.2⟩
      have h := HK.out.1
      rwa [List.take_of_length_le (by rw [HM.out]; exact Nat.le_refl _)] at h
set_option maxHeartbeats 2000000 in
/-- source.each at abugida/api.Point -/
theorem writes_points {A : Nat → Prop} {w : World} {v : Value} {xs : List Dat} {f : FuncId} {caps : Array Value} {ss : List ByteArray} (hf : Enters f) (hr : Rd A w [v] (.l 3 xs)) (hlen : ss.length = xs.length) (hl : xs.length ≤ 100000) (hs : Writes f caps w (ElS A xs) ss) :
    Calls Tryz.prog 104 #[v, .func (.func f) #[] caps] w fun e w' => ∃ v', e = .returned v' ∧ OwnS w' w.heap.size v' ss ∧ Ext Nope w w' := by
  have HR := toHid hr
  obtain ⟨a, cap, hv, hc1, hc2, _⟩ := hr.l_inv
  simp only [List.cons.injEq, and_true] at hv
  subst hv
  obtain ⟨n, HN⟩ : ∃ n, Hid (xs.length = n) := ⟨_, rfl⟩
  have HS := toHid hs
  have HM : Hid (ss.length = n) := hlen.trans HN.out
  rw [HN.out] at hc1 hl ⊢
  clear hr hs hlen
  obtain ⟨i0, hi, hz0, hz1, hz2⟩ := info_parts infoStr
  have HI := toHid (show _ ∧ _ ∧ _ ∧ _ from ⟨hi, hz0, hz1, hz2⟩)
  clear hi hz0 hz1 hz2
  go_enter Tryz.func104, Tryz.ntmps104
  go_wp2_with fail
  go_loopw [5, 10] (fun o i wr => ∃ k : Nat, i = .int .i64 k ∧ k ≤ n ∧ OwnS wr w.heap.size o (ss.take k) ∧ Ext Nope w wr) (fun _ i _ => n - (intOf i).toNat)
  case atStart => exact ⟨0, rfl, Nat.zero_le _, OwnS.nil _ _, Ext.refl _ _⟩
  case round =>
    obtain ⟨k, rfl, hk, hO, hE⟩ := hrel
    rename World => wr
    have HK := toHid (show _ ∧ _ from ⟨hO, hE⟩)
    obtain ⟨av, cv, hv, _⟩ := own_gen (show wr.ownsRow w.heap.size 9 1 u5 (ss.take k).length _ from hO)
    rw [List.length_take, HM.out, Nat.min_eq_left hk] at hv
    subst hv
    clear hO hE
    by_cases hkn : k < n
    · have hd := HR.out.ext0 HK.out.2
      obtain ⟨a', cap', hv, _, _, hll⟩ := hd.l_inv
      simp only [List.cons.injEq, Value.slice.injEq, and_true] at hv
      obtain ⟨rfl, _, rfl⟩ := hv
      obtain ⟨b, off, rfl, hb, hbl, hat⟩ := hll (by rw [HN.out]; omega)
      obtain ⟨x, hx⟩ : ∃ x, xs[k]? = some x := ⟨_, List.getElem?_eq_getElem (by rw [HN.out]; exact hkn)⟩
      obtain ⟨s, hss⟩ : ∃ s, ss[k]? = some s := ⟨_, List.getElem?_eq_getElem (by rw [HM.out]; exact hkn)⟩
      obtain ⟨us, hu1, hu2, hu3⟩ := hat k x hx
      obtain ⟨u0, u1, u2, rfl⟩ : ∃ u0 u1 u2, us = [u0, u1, u2] := by
        match us, hu1 with
        | [u0, u1, u2], _ => exact ⟨u0, u1, u2, rfl⟩
      have c0 : wr.cell? ⟨b, off + k * 3, none⟩ = some u0 := by simpa using hu2 0 _ rfl
      have c1 : wr.cell? ⟨b, off + k * 3 + 1, none⟩ = some u1 := by simpa using hu2 1 _ rfl
      have c2 : wr.cell? ⟨b, off + k * 3 + 2, none⟩ = some u2 := by simpa using hu2 2 _ rfl
      have o0 := store_one (P := Tryz.prog) (hu3.one u0 (by simp))
      have o1 := store_one (P := Tryz.prog) (hu3.one u1 (by simp))
      have o2 := store_one (P := Tryz.prog) (hu3.one u2 (by simp))
      have HC := toHid (show ∀ w1, Ext Nope wr w1 → _ from fun w1 e1 => HS.out k w1 (.agg #[u0, u1, u2]) s hss (ext0 HK.out.2 e1) ⟨x, [u0, u1, u2], rfl, hx, (hu3.ext0 e1)⟩)
      have HP := toHid hss
      have s1 : (0 : Int) ≤ (k : Int) := by omega
      have s2 : (k : Int) < (n : Int) := by omega
      clear hd hll hat hu2 hu3 hx hb hu1 hss
      go_wp2_with fail
      refine (HC.out _ (by repeat (first | exact Ext.refl _ _ | (refine Ext.setCell (S := Nope) ?_ _ _ (fun z => absurd z (by simp)) _) | (refine Ext.alloc ?_ _)))).mono ?_
      rintro e w2 ⟨rfl, e2⟩
      have E2 : Hid (Ext Nope wr w2) := ext0 (by repeat (first | exact Ext.refl _ _ | (refine Ext.setCell (S := Nope) ?_ _ _ (fun z => absurd z (by simp)) _) | (refine Ext.alloc ?_ _))) e2
      have HO2 : Hid (OwnS w2 w.heap.size (.slice av k cv) (ss.take k)) := own_ext HK.out.1 E2.out (fun _ _ z => z)
      have H2 : Hid (Ext Nope w w2) := ext0 HK.out.2 E2.out
      have hown : w2.ownsRow w.heap.size 9 1 (.slice av k cv) k ((ss.take k).map .string) := by
        have h := HO2.out
        unfold OwnS at h
        rw [List.length_take, HM.out, Nat.min_eq_left hk] at h
        exact h
      clear e2 HC
      obtain ⟨hi, hz0, hz1, hz2⟩ := HI.out
      go_wp2_with (first | (at_builtin; refine wpList_append_own _ rfl (.tmp 14) (.tmp 18) 59 rfl w.heap.size 9 i0 _ 1 16 Tryz.underlying59 hi hz0 hz1 hz2 rfl (by decide) _ _ _ rfl (hown.alloc _) ⟨w2.heap.size, 0, none⟩ 1 1 [.string s] rfl rfl (blk_at (heap_alloc_new w2 _)) (by intro u hu; simp at hu; subst hu; rfl) (by unfold maxLen; omega) (by omega) (by have h1 := H2.out.size; simp; omega) ?_))
      intro v' w' hown' hgrow _
      have HW := toHid (show _ ∧ _ from ⟨OwnS.snoc (by rw [List.map_take]; exact hown') HP.out, Ext.grown (H2.out.alloc _) hgrow (fun g hg hlt => absurd hlt (by have := (World.ownsRow.lt hown g hg).1; omega))⟩)
      clear hown' hgrow hown hi hz0 hz1 hz2
      go_wp2
      go_roundw
      case rel => exact ⟨k + 1, by go_num, by omega, HW.out⟩
      case measure => simp [intOf]; omega
    · have hkk : k = n := by omega
      subst hkk
      have s2 : decide ((k : Int) < (k : Int)) = false := by simp
      go_wp2
      go_ret
      refine ⟨_, rfl, ?_, HK.out.2⟩
      have h := HK.out.1
      rwa [List.take_of_length_le (by rw [HM.out]; exact Nat.le_refl _)] at h
set_option maxHeartbeats 2000000 in
/-- source.each at abugida/api.Call -/
theorem writes_calls {A : Nat → Prop} {w : World} {v : Value} {xs : List Dat} {f : FuncId} {caps : Array Value} {ss : List ByteArray} (hf : Enters f) (hr : Rd A w [v] (.l 2 xs)) (hlen : ss.length = xs.length) (hl : xs.length ≤ 100000) (hs : Writes f caps w (ElS A xs) ss) :
    Calls Tryz.prog 100 #[v, .func (.func f) #[] caps] w fun e w' => ∃ v', e = .returned v' ∧ OwnS w' w.heap.size v' ss ∧ Ext Nope w w' := by
  have HR := toHid hr
  obtain ⟨a, cap, hv, hc1, hc2, _⟩ := hr.l_inv
  simp only [List.cons.injEq, and_true] at hv
  subst hv
  obtain ⟨n, HN⟩ : ∃ n, Hid (xs.length = n) := ⟨_, rfl⟩
  have HS := toHid hs
  have HM : Hid (ss.length = n) := hlen.trans HN.out
  rw [HN.out] at hc1 hl ⊢
  clear hr hs hlen
  obtain ⟨i0, hi, hz0, hz1, hz2⟩ := info_parts infoStr
  have HI := toHid (show _ ∧ _ ∧ _ ∧ _ from ⟨hi, hz0, hz1, hz2⟩)
  clear hi hz0 hz1 hz2
  go_enter Tryz.func100, Tryz.ntmps100
  go_wp2_with fail
  go_loopw [5, 10] (fun o i wr => ∃ k : Nat, i = .int .i64 k ∧ k ≤ n ∧ OwnS wr w.heap.size o (ss.take k) ∧ Ext Nope w wr) (fun _ i _ => n - (intOf i).toNat)
  case atStart => exact ⟨0, rfl, Nat.zero_le _, OwnS.nil _ _, Ext.refl _ _⟩
  case round =>
    obtain ⟨k, rfl, hk, hO, hE⟩ := hrel
    rename World => wr
    have HK := toHid (show _ ∧ _ from ⟨hO, hE⟩)
    obtain ⟨av, cv, hv, _⟩ := own_gen (show wr.ownsRow w.heap.size 9 1 u5 (ss.take k).length _ from hO)
    rw [List.length_take, HM.out, Nat.min_eq_left hk] at hv
    subst hv
    clear hO hE
    by_cases hkn : k < n
    · have hd := HR.out.ext0 HK.out.2
      obtain ⟨a', cap', hv, _, _, hll⟩ := hd.l_inv
      simp only [List.cons.injEq, Value.slice.injEq, and_true] at hv
      obtain ⟨rfl, _, rfl⟩ := hv
      obtain ⟨b, off, rfl, hb, hbl, hat⟩ := hll (by rw [HN.out]; omega)
      obtain ⟨x, hx⟩ : ∃ x, xs[k]? = some x := ⟨_, List.getElem?_eq_getElem (by rw [HN.out]; exact hkn)⟩
      obtain ⟨s, hss⟩ : ∃ s, ss[k]? = some s := ⟨_, List.getElem?_eq_getElem (by rw [HM.out]; exact hkn)⟩
      obtain ⟨us, hu1, hu2, hu3⟩ := hat k x hx
      obtain ⟨u0, u1, rfl⟩ : ∃ u0 u1, us = [u0, u1] := by
        match us, hu1 with
        | [u0, u1], _ => exact ⟨u0, u1, rfl⟩
      have c0 : wr.cell? ⟨b, off + k * 2, none⟩ = some u0 := by simpa using hu2 0 _ rfl
      have c1 : wr.cell? ⟨b, off + k * 2 + 1, none⟩ = some u1 := by simpa using hu2 1 _ rfl
      have o0 := store_one (P := Tryz.prog) (hu3.one u0 (by simp))
      have o1 := store_one (P := Tryz.prog) (hu3.one u1 (by simp))
      have HC := toHid (show ∀ w1, Ext Nope wr w1 → _ from fun w1 e1 => HS.out k w1 (.agg #[u0, u1]) s hss (ext0 HK.out.2 e1) ⟨x, [u0, u1], rfl, hx, (hu3.ext0 e1)⟩)
      have HP := toHid hss
      have s1 : (0 : Int) ≤ (k : Int) := by omega
      have s2 : (k : Int) < (n : Int) := by omega
      clear hd hll hat hu2 hu3 hx hb hu1 hss
      go_wp2_with fail
      refine (HC.out _ (by repeat (first | exact Ext.refl _ _ | (refine Ext.setCell (S := Nope) ?_ _ _ (fun z => absurd z (by simp)) _) | (refine Ext.alloc ?_ _)))).mono ?_
      rintro e w2 ⟨rfl, e2⟩
      have E2 : Hid (Ext Nope wr w2) := ext0 (by repeat (first | exact Ext.refl _ _ | (refine Ext.setCell (S := Nope) ?_ _ _ (fun z => absurd z (by simp)) _) | (refine Ext.alloc ?_ _))) e2
      have HO2 : Hid (OwnS w2 w.heap.size (.slice av k cv) (ss.take k)) := own_ext HK.out.1 E2.out (fun _ _ z => z)
      have H2 : Hid (Ext Nope w w2) := ext0 HK.out.2 E2.out
      have hown : w2.ownsRow w.heap.size 9 1 (.slice av k cv) k ((ss.take k).map .string) := by
        have h := HO2.out
        unfold OwnS at h
        rw [List.length_take, HM.out, Nat.min_eq_left hk] at h
        exact h
      clear e2 HC
      obtain ⟨hi, hz0, hz1, hz2⟩ := HI.out
      go_wp2_with (first | (at_builtin; refine wpList_append_own _ rfl (.tmp 14) (.tmp 18) 59 rfl w.heap.size 9 i0 _ 1 16 Tryz.underlying59 hi hz0 hz1 hz2 rfl (by decide) _ _ _ rfl (hown.alloc _) ⟨w2.heap.size, 0, none⟩ 1 1 [.string s] rfl rfl (blk_at (heap_alloc_new w2 _)) (by intro u hu; simp at hu; subst hu; rfl) (by unfold maxLen; omega) (by omega) (by have h1 := H2.out.size; simp; omega) ?_))
      intro v' w' hown' hgrow _
      have HW := toHid (show _ ∧ _ from ⟨OwnS.snoc (by rw [List.map_take]; exact hown') HP.out, Ext.grown (H2.out.alloc _) hgrow (fun g hg hlt => absurd hlt (by have := (World.ownsRow.lt hown g hg).1; omega))⟩)
      clear hown' hgrow hown hi hz0 hz1 hz2
      go_wp2
      go_roundw
      case rel => exact ⟨k + 1, by go_num, by omega, HW.out⟩
      case measure => simp [intOf]; omega
    · have hkk : k = n := by omega
      subst hkk
      have s2 : decide ((k : Int) < (k : Int)) = false := by simp
      go_wp2
      go_ret
      refine ⟨_, rfl, ?_, HK.out.2⟩
      have h := HK.out.1
      rwa [List.take_of_length_le (by rw [HM.out]; exact Nat.le_refl _)] at h
set_option maxHeartbeats 2000000 in
/-- source.each at abugida/api.Ins -/
theorem writes_ins {A : Nat → Prop} {w : World} {v : Value} {xs : List Dat} {f : FuncId} {caps : Array Value} {ss : List ByteArray} (hf : Enters f) (hr : Rd A w [v] (.l 2 xs)) (hlen : ss.length = xs.length) (hl : xs.length ≤ 100000) (hs : Writes f caps w (ElS A xs) ss) :
    Calls Tryz.prog 109 #[v, .func (.func f) #[] caps] w fun e w' => ∃ v', e = .returned v' ∧ OwnS w' w.heap.size v' ss ∧ Ext Nope w w' := by
  have HR := toHid hr
  obtain ⟨a, cap, hv, hc1, hc2, _⟩ := hr.l_inv
  simp only [List.cons.injEq, and_true] at hv
  subst hv
  obtain ⟨n, HN⟩ : ∃ n, Hid (xs.length = n) := ⟨_, rfl⟩
  have HS := toHid hs
  have HM : Hid (ss.length = n) := hlen.trans HN.out
  rw [HN.out] at hc1 hl ⊢
  clear hr hs hlen
  obtain ⟨i0, hi, hz0, hz1, hz2⟩ := info_parts infoStr
  have HI := toHid (show _ ∧ _ ∧ _ ∧ _ from ⟨hi, hz0, hz1, hz2⟩)
  clear hi hz0 hz1 hz2
  go_enter Tryz.func109, Tryz.ntmps109
  go_wp2_with fail
  go_loopw [5, 10] (fun o i wr => ∃ k : Nat, i = .int .i64 k ∧ k ≤ n ∧ OwnS wr w.heap.size o (ss.take k) ∧ Ext Nope w wr) (fun _ i _ => n - (intOf i).toNat)
  case atStart => exact ⟨0, rfl, Nat.zero_le _, OwnS.nil _ _, Ext.refl _ _⟩
  case round =>
    obtain ⟨k, rfl, hk, hO, hE⟩ := hrel
    rename World => wr
    have HK := toHid (show _ ∧ _ from ⟨hO, hE⟩)
    obtain ⟨av, cv, hv, _⟩ := own_gen (show wr.ownsRow w.heap.size 9 1 u5 (ss.take k).length _ from hO)
    rw [List.length_take, HM.out, Nat.min_eq_left hk] at hv
    subst hv
    clear hO hE
    by_cases hkn : k < n
    · have hd := HR.out.ext0 HK.out.2
      obtain ⟨a', cap', hv, _, _, hll⟩ := hd.l_inv
      simp only [List.cons.injEq, Value.slice.injEq, and_true] at hv
      obtain ⟨rfl, _, rfl⟩ := hv
      obtain ⟨b, off, rfl, hb, hbl, hat⟩ := hll (by rw [HN.out]; omega)
      obtain ⟨x, hx⟩ : ∃ x, xs[k]? = some x := ⟨_, List.getElem?_eq_getElem (by rw [HN.out]; exact hkn)⟩
      obtain ⟨s, hss⟩ : ∃ s, ss[k]? = some s := ⟨_, List.getElem?_eq_getElem (by rw [HM.out]; exact hkn)⟩
      obtain ⟨us, hu1, hu2, hu3⟩ := hat k x hx
      obtain ⟨u0, u1, rfl⟩ : ∃ u0 u1, us = [u0, u1] := by
        match us, hu1 with
        | [u0, u1], _ => exact ⟨u0, u1, rfl⟩
      have c0 : wr.cell? ⟨b, off + k * 2, none⟩ = some u0 := by simpa using hu2 0 _ rfl
      have c1 : wr.cell? ⟨b, off + k * 2 + 1, none⟩ = some u1 := by simpa using hu2 1 _ rfl
      have o0 := store_one (P := Tryz.prog) (hu3.one u0 (by simp))
      have o1 := store_one (P := Tryz.prog) (hu3.one u1 (by simp))
      have HC := toHid (show ∀ w1, Ext Nope wr w1 → _ from fun w1 e1 => HS.out k w1 (.agg #[u0, u1]) s hss (ext0 HK.out.2 e1) ⟨x, [u0, u1], rfl, hx, (hu3.ext0 e1)⟩)
      have HP := toHid hss
      have s1 : (0 : Int) ≤ (k : Int) := by omega
      have s2 : (k : Int) < (n : Int) := by omega
      clear hd hll hat hu2 hu3 hx hb hu1 hss
      go_wp2_with fail
      refine (HC.out _ (by repeat (first | exact Ext.refl _ _ | (refine Ext.setCell (S := Nope) ?_ _ _ (fun z => absurd z (by simp)) _) | (refine Ext.alloc ?_ _)))).mono ?_
      rintro e w2 ⟨rfl, e2⟩
      have E2 : Hid (Ext Nope wr w2) := ext0 (by repeat (first | exact Ext.refl _ _ | (refine Ext.setCell (S := Nope) ?_ _ _ (fun z => absurd z (by simp)) _) | (refine Ext.alloc ?_ _))) e2
      have HO2 : Hid (OwnS w2 w.heap.size (.slice av k cv) (ss.take k)) := own_ext HK.out.1 E2.out (fun _ _ z => z)
      have H2 : Hid (Ext Nope w w2) := ext0 HK.out.2 E2.out
      have hown : w2.ownsRow w.heap.size 9 1 (.slice av k cv) k ((ss.take k).map .string) := by
        have h := HO2.out
        unfold OwnS at h
        rw [List.length_take, HM.out, Nat.min_eq_left hk] at h
        exact h
      clear e2 HC
      obtain ⟨hi, hz0, hz1, hz2⟩ := HI.out
      go_wp2_with (first | (at_builtin; refine wpList_append_own _ rfl (.tmp 14) (.tmp 18) 59 rfl w.heap.size 9 i0 _ 1 16 Tryz.underlying59 hi hz0 hz1 hz2 rfl (by decide) _ _ _ rfl (hown.alloc _) ⟨w2.heap.size, 0, none⟩ 1 1 [.string s] rfl rfl (blk_at (heap_alloc_new w2 _)) (by intro u hu; simp at hu; subst hu; rfl) (by unfold maxLen; omega) (by omega) (by have h1 := H2.out.size; simp; omega) ?_))
      intro v' w' hown' hgrow _
      have HW := toHid (show _ ∧ _ from ⟨OwnS.snoc (by rw [List.map_take]; exact hown') HP.out, Ext.grown (H2.out.alloc _) hgrow (fun g hg hlt => absurd hlt (by have := (World.ownsRow.lt hown g hg).1; omega))⟩)
      clear hown' hgrow hown hi hz0 hz1 hz2
      go_wp2
      go_roundw
      case rel => exact ⟨k + 1, by go_num, by omega, HW.out⟩
      case measure => simp [intOf]; omega
    · have hkk : k = n := by omega
      subst hkk
      have s2 : decide ((k : Int) < (k : Int)) = false := by simp
      go_wp2
      go_ret
      refine ⟨_, rfl, ?_, HK.out.2⟩
      have h := HK.out.1
      rwa [List.take_of_length_le (by rw [HM.out]; exact Nat.le_refl _)] at h
set_option maxHeartbeats 2000000 in
/-- source.each at abugida/api.Grow -/
theorem writes_grows {A : Nat → Prop} {w : World} {v : Value} {xs : List Dat} {f : FuncId} {caps : Array Value} {ss : List ByteArray} (hf : Enters f) (hr : Rd A w [v] (.l 2 xs)) (hlen : ss.length = xs.length) (hl : xs.length ≤ 100000) (hs : Writes f caps w (ElS A xs) ss) :
    Calls Tryz.prog 41 #[v, .func (.func f) #[] caps] w fun e w' => ∃ v', e = .returned v' ∧ OwnS w' w.heap.size v' ss ∧ Ext Nope w w' := by
  have HR := toHid hr
  obtain ⟨a, cap, hv, hc1, hc2, _⟩ := hr.l_inv
  simp only [List.cons.injEq, and_true] at hv
  subst hv
  obtain ⟨n, HN⟩ : ∃ n, Hid (xs.length = n) := ⟨_, rfl⟩
  have HS := toHid hs
  have HM : Hid (ss.length = n) := hlen.trans HN.out
  rw [HN.out] at hc1 hl ⊢
  clear hr hs hlen
  obtain ⟨i0, hi, hz0, hz1, hz2⟩ := info_parts infoStr
  have HI := toHid (show _ ∧ _ ∧ _ ∧ _ from ⟨hi, hz0, hz1, hz2⟩)
  clear hi hz0 hz1 hz2
  go_enter Tryz.func41, Tryz.ntmps41
  go_wp2_with fail
  go_loopw [5, 10] (fun o i wr => ∃ k : Nat, i = .int .i64 k ∧ k ≤ n ∧ OwnS wr w.heap.size o (ss.take k) ∧ Ext Nope w wr) (fun _ i _ => n - (intOf i).toNat)
  case atStart => exact ⟨0, rfl, Nat.zero_le _, OwnS.nil _ _, Ext.refl _ _⟩
  case round =>
    obtain ⟨k, rfl, hk, hO, hE⟩ := hrel
    rename World => wr
    have HK := toHid (show _ ∧ _ from ⟨hO, hE⟩)
    obtain ⟨av, cv, hv, _⟩ := own_gen (show wr.ownsRow w.heap.size 9 1 u5 (ss.take k).length _ from hO)
    rw [List.length_take, HM.out, Nat.min_eq_left hk] at hv
    subst hv
    clear hO hE
    by_cases hkn : k < n
    · have hd := HR.out.ext0 HK.out.2
      obtain ⟨a', cap', hv, _, _, hll⟩ := hd.l_inv
      simp only [List.cons.injEq, Value.slice.injEq, and_true] at hv
      obtain ⟨rfl, _, rfl⟩ := hv
      obtain ⟨b, off, rfl, hb, hbl, hat⟩ := hll (by rw [HN.out]; omega)
      obtain ⟨x, hx⟩ : ∃ x, xs[k]? = some x := ⟨_, List.getElem?_eq_getElem (by rw [HN.out]; exact hkn)⟩
      obtain ⟨s, hss⟩ : ∃ s, ss[k]? = some s := ⟨_, List.getElem?_eq_getElem (by rw [HM.out]; exact hkn)⟩
      obtain ⟨us, hu1, hu2, hu3⟩ := hat k x hx
      obtain ⟨u0, u1, rfl⟩ : ∃ u0 u1, us = [u0, u1] := by
        match us, hu1 with
        | [u0, u1], _ => exact ⟨u0, u1, rfl⟩
      have c0 : wr.cell? ⟨b, off + k * 2, none⟩ = some u0 := by simpa using hu2 0 _ rfl
      have c1 : wr.cell? ⟨b, off + k * 2 + 1, none⟩ = some u1 := by simpa using hu2 1 _ rfl
      have o0 := store_one (P := Tryz.prog) (hu3.one u0 (by simp))
      have o1 := store_one (P := Tryz.prog) (hu3.one u1 (by simp))
      have HC := toHid (show ∀ w1, Ext Nope wr w1 → _ from fun w1 e1 => HS.out k w1 (.agg #[u0, u1]) s hss (ext0 HK.out.2 e1) ⟨x, [u0, u1], rfl, hx, (hu3.ext0 e1)⟩)
      have HP := toHid hss
      have s1 : (0 : Int) ≤ (k : Int) := by omega
      have s2 : (k : Int) < (n : Int) := by omega
      clear hd hll hat hu2 hu3 hx hb hu1 hss
      go_wp2_with fail
      refine (HC.out _ (by repeat (first | exact Ext.refl _ _ | (refine Ext.setCell (S := Nope) ?_ _ _ (fun z => absurd z (by simp)) _) | (refine Ext.alloc ?_ _)))).mono ?_
      rintro e w2 ⟨rfl, e2⟩
      have E2 : Hid (Ext Nope wr w2) := ext0 (by repeat (first | exact Ext.refl _ _ | (refine Ext.setCell (S := Nope) ?_ _ _ (fun z => absurd z (by simp)) _) | (refine Ext.alloc ?_ _))) e2
      have HO2 : Hid (OwnS w2 w.heap.size (.slice av k cv) (ss.take k)) := own_ext HK.out.1 E2.out (fun _ _ z => z)
      have H2 : Hid (Ext Nope w w2) := ext0 HK.out.2 E2.out
      have hown : w2.ownsRow w.heap.size 9 1 (.slice av k cv) k ((ss.take k).map .string) := by
        have h := HO2.out
        unfold OwnS at h
        rw [List.length_take, HM.out, Nat.min_eq_left hk] at h
        exact h
      clear e2 HC
      obtain ⟨hi, hz0, hz1, hz2⟩ := HI.out
      go_wp2_with (first | (at_builtin; refine wpList_append_own _ rfl (.tmp 14) (.tmp 18) 59 rfl w.heap.size 9 i0 _ 1 16 Tryz.underlying59 hi hz0 hz1 hz2 rfl (by decide) _ _ _ rfl (hown.alloc _) ⟨w2.heap.size, 0, none⟩ 1 1 [.string s] rfl rfl (blk_at (heap_alloc_new w2 _)) (by intro u hu; simp at hu; subst hu; rfl) (by unfold maxLen; omega) (by omega) (by have h1 := H2.out.size; simp; omega) ?_))
      intro v' w' hown' hgrow _
      have HW := toHid (show _ ∧ _ from ⟨OwnS.snoc (by rw [List.map_take]; exact hown') HP.out, Ext.grown (H2.out.alloc _) hgrow (fun g hg hlt => absurd hlt (by have := (World.ownsRow.lt hown g hg).1; omega))⟩)
      clear hown' hgrow hown hi hz0 hz1 hz2
      go_wp2
      go_roundw
      case rel => exact ⟨k + 1, by go_num, by omega, HW.out⟩
      case measure => simp [intOf]; omega
    · have hkk : k = n := by omega
      subst hkk
      have s2 : decide ((k : Int) < (k : Int)) = false := by simp
      go_wp2
      go_ret
      refine ⟨_, rfl, ?_, HK.out.2⟩
      have h := HK.out.1
      rwa [List.take_of_length_le (by rw [HM.out]; exact Nat.le_refl _)] at h
end Go.Proofs.YtajebdpalnpjdaaGreatDoor
