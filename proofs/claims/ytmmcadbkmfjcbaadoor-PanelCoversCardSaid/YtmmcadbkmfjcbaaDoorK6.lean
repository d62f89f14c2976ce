/-
  PanelBrings: the walk.
-/
import Derived.Test.YtmmcadbkmfjcbaaDoorF1
import Derived.Test.YtmmcadbkmfjcbaaDoorU0
import Derived.Test.YtmmcadbkmfjcbaaDoorP1
import Derived.Test.YtmmcadbkmfjcbaaDoorP3
namespace Go.Proofs.YtmmcadbkmfjcbaaDoor
open Go.RowKit
attribute [local go_sem] alloc_drewN setCell_drewN

theorem made_length (xs : List Nat) (W H : Nat) : (madeA xs W H).length = H := by unfold madeA; rw [firstA_length, padA_length]
theorem made_small (xs : List Nat) (W H : Nat) : ∀ x ∈ madeA xs W H, x < 2 ^ W := by
  intro x hx
  unfold madeA firstA at hx
  obtain ⟨y, _, rfl⟩ := List.mem_map.1 hx
  exact Nat.mod_lt _ (Nat.two_pow_pos _)
theorem small_u64 {xs : List Nat} {W : Nat} (hW : W ≤ 64) (h : ∀ x ∈ xs, x < 2 ^ W) : U64 xs := fun x hxx => Nat.lt_of_lt_of_le (h x hxx) (show 2 ^ W ≤ 2 ^ 64 from Nat.pow_le_pow_right (by omega) hW)
theorem Fits.i64 {W K : Nat} {r : R} (h : Fits W K r) (hK : K ≤ 64) : r.i64 := by
  obtain ⟨⟨⟨a1, a2, a3, a4, a5, a6⟩, hw, hh⟩, _⟩ := h
  unfold R.i64
  omega
theorem Fits.cut_u64 {W K : Nat} {r : R} {ys : List Nat} (h : Fits W K r) (hW : W ≤ 64) (hK : ys.length = K) : U64 (cutR ys r) := by
  obtain ⟨X, Y, w, h', rfl, h1, h2, h3, h4⟩ := h.nat
  rw [cutR_eq hW hK h1 h2 h3 h4]
  exact small_u64 (by omega) cut_small
theorem Fits.cut_len {W K : Nat} {r : R} {ys : List Nat} (h : Fits W K r) (hW : W ≤ 64) (hK : ys.length = K) (hK2 : K ≤ 64) : (cutR ys r).length ≤ 64 := by
  obtain ⟨X, Y, w, h', rfl, h1, h2, h3, h4⟩ := h.nat
  rw [cutR_eq hW hK h1 h2 h3 h4, cutA_length (by omega)]
  omega
theorem take_split {l : List R} {k m : Nat} (hk : k < m) (hm : l.length = m) : ∃ a r b, l = a ++ r :: b ∧ a.length = k ∧ l.take k = a ∧ l.take (k + 1) = a ++ [r] := by
  obtain ⟨r, a, b, e1, e2⟩ := nth_split (xs := l) (k := k) (by omega)
  refine ⟨a, r, b, e1, e2, ?_, ?_⟩
  · rw [e1, ← e2]; simp
  · rw [e1, show a ++ r :: b = (a ++ [r]) ++ b by simp]; exact List.take_left' (by simp [e2])

set_option maxRecDepth 100000 in
set_option maxHeartbeats 4000000 in
/-- abugidalaw33.PanelBrings -/
theorem brings_calls {w : World} {v1 v2 : Value} {xs0 ys0 : List Nat} (ca cb cm : Int) (hT : Tab w) (ha : 0 ≤ ca ∧ ca ≤ 255) (hb : 0 ≤ cb ∧ cb ≤ 255) (hm : 0 ≤ cm ∧ cm ≤ 255) (hr1 : Reads w v1 xs0) (hu1 : U64 xs0) (hr2 : Reads w v2 ys0) (hu2 : U64 ys0) :
    Calls Tryd.prog 6 #[.agg #[.int .u8 ca, .int .u8 cb, v1, v2, .int .u8 cm]] w fun e w' => e = .returned (.bool true) ∧ Ext Nope w w' := by
  have HR := toHid (show _ ∧ _ ∧ _ ∧ _ ∧ _ from ⟨hr1, hu1, hr2, hu2, hT⟩)
  obtain ⟨av1, cap1, hv1, _⟩ := hr1
  obtain ⟨av2, cap2, hv2, _⟩ := hr2
  obtain ⟨l1, HL1⟩ : ∃ l, Hid (xs0.length = l) := ⟨_, rfl⟩
  obtain ⟨l2, HL2⟩ : ∃ l, Hid (ys0.length = l) := ⟨_, rfl⟩
  rw [HL1.out] at hv1
  rw [HL2.out] at hv2
  subst hv1 hv2
  obtain ⟨_, hW1, hW2⟩ := sizeW_eq ha
  obtain ⟨_, hH1, hH2⟩ := sizeW_eq hb
  have HS := toHid (fun W' => sizes_calls ca cb cm (.slice av1 l1 cap1) (.slice av2 l2 cap2) W' ha hb)
  have HRW := toHid (fun W' (e : Ext Nope w W') => rows_calls ca cb cm W' ha hb (HR.out.1.ext0 e) hu1 (HR.out.2.2.1.ext0 e) hu2)
  generalize sizeW ca = W at *
  generalize sizeW cb = H at *
  have HX := toHid (show _ ∧ _ ∧ _ ∧ _ from ⟨made_length xs0 W H, made_length ys0 W H, made_small xs0 W H, made_small ys0 W H⟩)
  obtain ⟨xs, hxs⟩ : ∃ xs, Hid (madeA xs0 W H = xs) := ⟨_, rfl⟩
  obtain ⟨ys, hys⟩ : ∃ ys, Hid (madeA ys0 W H = ys) := ⟨_, rfl⟩
  rw [hxs.out, hys.out] at HX
  obtain ⟨M, hM⟩ : ∃ M : Nat, 1 + cm % 9 = (M : Int) := ⟨(1 + cm % 9).toNat, by omega⟩
  have hM1 : 1 ≤ M ∧ M ≤ 9 := by omega
  have t0 : cm.tmod 9 = (M : Int) - 1 := by rw [Int.tmod_eq_emod_of_nonneg hm.1]; omega
  have t2 : IntKind.i64.wrap (1 + ((M : Int) - 1)) = (M : Int) := by rw [show 1 + ((M : Int) - 1) = (M : Int) by omega]; exact IntWalk.i64_in _ (by omega)
  have p0 : IntKind.i64.wrap cm = cm := IntWalk.i64_in _ (by omega)
  have HTT := toHid (show _ ∧ _ ∧ _ from ⟨t0, t2, p0⟩)
  have HP := toHid (planA_of hW1 hW2 (HX.out.1.trans HX.out.2.1.symm) (by rw [HX.out.1]; exact hH2) hM1.1)
  clear hT hM t0 t2 p0 hu1 hu2
  go_enter Tryd.func6, Tryd.ntmps6
  go_wp2_with fail
  have e0 : Ext Nope w (w.alloc (.cells #[.int .u8 ca, .int .u8 cb, .slice av1 l1 cap1, .slice av2 l2 cap2, .int .u8 cm] 53)) := (Ext.refl _ _).alloc _
  refine (sanity_calls _ (HR.out.2.2.2.2.ext0 e0)).mono ?_
  rintro e w1 ⟨rfl, x1⟩
  have k0 := (x1.block w.heap.size (by simp) (fun z => z)).trans (heap_alloc_new w (.cells #[.int .u8 ca, .int .u8 cb, .slice av1 l1 cap1, .slice av2 l2 cap2, .int .u8 cm] 53))
  have c0 := cell_of_blk k0 0
  have c1 := cell_of_blk k0 1
  have c2 := cell_of_blk k0 2
  have c3 := cell_of_blk k0 3
  have c4 := cell_of_blk k0 4
  have HE1 := toHid (show _ ∧ _ from ⟨ext0 e0 x1, k0⟩)
  clear e0 x1 k0
  go_wp2_with fail
  refine (HS.out w1).mono ?_
  rintro e w2 ⟨rfl, x2⟩
  have k0 := (x2.block w.heap.size (lt_of_heap HE1.out.2) (fun z => z)).trans HE1.out.2
  clear c0 c1 c2 c3 c4
  have c0 := cell_of_blk k0 0
  have c1 := cell_of_blk k0 1
  have c2 := cell_of_blk k0 2
  have c3 := cell_of_blk k0 3
  have c4 := cell_of_blk k0 4
  have HE2 := toHid (show _ ∧ _ from ⟨ext0 HE1.out.1 x2, k0⟩)
  clear x2 k0 HE1 HS
  go_wp2_with fail
  refine (HRW.out _ HE2.out.1).mono ?_
  rintro e w3 ⟨u1, u2, rfl, r1, r2, x3⟩
  rw [hxs.out] at r1
  rw [hys.out] at r2
  have k0 := (x3.block w.heap.size (lt_of_heap HE2.out.2) (fun z => z)).trans HE2.out.2
  clear c0 c1 c2 c3 c4
  have c4 := cell_of_blk k0 4
  have HE3 := toHid (show _ ∧ _ ∧ _ from ⟨ext0 HE2.out.1 x3, r1, r2⟩)
  clear x3 k0 HE2 HRW r1 r2
  obtain ⟨t0, t2, p0⟩ := HTT.out
  go_upto_region 5 with fail
  clear t0 t2 p0 c4
  go_wp2_with fail
  refine (shows_calls W hW1 hW2 (RowsAt.reads HE3.out.2.1) (fun g hg => (World.ownsRow.lt HE3.out.2.1 g hg).2) HX.out.2.2.1 (by rw [HX.out.1]; exact hH1) (by rw [HX.out.1]; exact hH2)).mono ?_
  rintro e w4 ⟨b, rv, rfl, hp, x4⟩
  have hFoot : Hid (∀ k, Foot b rv k → w3.heap.size ≤ k ∧ k < w4.heap.size) := hp.foot
  have HE4 := toHid (show _ ∧ _ ∧ _ ∧ _ from ⟨hp, ext0 HE3.out.1 x4, RowsAt.reads (own_ext HE3.out.2.1 x4 (fun _ _ z => z)), own_ext HE3.out.2.2 x4 (fun _ _ z => z)⟩)
  have HU2 : Hid (∀ g, u2.ownBlock = some g → ¬ Foot b rv g) := fun g hg z => by have := (World.ownsRow.lt HE3.out.2.2 g hg).2; have := (hFoot.out g z).1; omega
  have HB : Hid (w.heap.size ≤ w3.heap.size) := HE3.out.1.size
  clear hp x4 HE3
  go_wp2_with fail
  refine (pixels_calls HE4.out.1 (by simp only; rw [HX.out.1]; exact hH2)).mono ?_
  rintro e w5 ⟨u5, rfl, r5, x5⟩
  have HE5 := toHid (show _ ∧ _ ∧ _ ∧ _ ∧ _ from ⟨HE4.out.1.ext x5 (fun _ _ z => z), ext0 HE4.out.2.1 x5, HE4.out.2.2.1.ext0 x5, own_ext HE4.out.2.2.2 x5 (fun _ _ z => z), RowsAt.reads r5⟩)
  have HB5 : Hid (w4.heap.size ≤ w5.heap.size) := x5.size
  clear r5 x5 HE4
  go_wp2_with fail
  refine (same_calls HE5.out.2.2.2.2 HE5.out.2.2.1).mono ?_
  rintro e w6 ⟨rfl, x6⟩
  rw [decide_eq_true rfl]
  have HE6 := toHid (show _ ∧ _ ∧ _ ∧ _ from ⟨HE5.out.1.ext x6 (fun _ _ z => z), ext0 HE5.out.2.1 x6, HE5.out.2.2.1.ext0 x6, own_ext HE5.out.2.2.2.1 x6 (fun _ _ z => z)⟩)
  have HB6 : Hid (w4.heap.size ≤ w6.heap.size) := Nat.le_trans HB5.out x6.size
  clear x6 HE5 HB5
  go_wp2_with fail
  refine (plan_calls W M HE6.out.2.2.1 (RowsAt.reads HE6.out.2.2.2) (HR.out.2.2.2.2.ext0 HE6.out.2.1) (small_u64 hW2 HX.out.2.2.1) (small_u64 hW2 HX.out.2.2.2)).mono ?_
  rintro e w7 ⟨pv, rfl, r7, x7⟩
  have HE7 := toHid (show _ ∧ _ ∧ _ ∧ _ from ⟨HE6.out.1.ext x7 (fun _ _ z => z), ext0 HE6.out.2.1 x7, RowsAt.reads (own_ext HE6.out.2.2.2 x7 (fun _ _ z => z)), r7⟩)
  have HPB : Hid (∀ g, pv.ownBlock = some g → ¬ Foot b rv g) := fun g hg z => by have := (World.ownsRow.lt r7 g hg).1; have := (hFoot.out g z).2; have := HB6.out; omega
  clear x7 HE6
  generalize planA W M xs ys = plan at *
  obtain ⟨m, HM⟩ : ∃ m, Hid (plan.length = m) := ⟨_, rfl⟩
  obtain ⟨pa, pcap, hpv, hpc, hpc2, _⟩ := own_gen r7
  rw [HM.out] at hpv hpc
  subst hpv
  have hm9 : m ≤ M := by have := HP.out.2; rw [HM.out] at this; exact this
  clear r7
  go_wp2_with fail
  go_loopw [48] (fun i wr => ∃ k : Nat, i = .int .i64 k ∧ k ≤ m ∧ PanAt wr w3.heap.size b rv ⟨W, fillA ys xs (plan.take k), false, 0, 1 + k⟩ ∧ PanOK ⟨W, fillA ys xs (plan.take k), false, 0, 1 + k⟩ ∧ Ext (Foot b rv) w7 wr) (fun i _ => m - (intOf i).toNat)
  case atStart => exact ⟨0, rfl, by omega, HE7.out.1, ⟨hW2, by rw [List.take_zero]; show xs.length ≤ 64; rw [HX.out.1]; exact hH2, by rw [List.take_zero]; exact small_u64 hW2 HX.out.2.2.1, fun h => by simp at h, by simp, by simp, by simp⟩, Ext.refl _ _⟩
  case round =>
    obtain ⟨k, rfl, hk, hPan, hOK, hE⟩ := hrel
    rename World => wo
    have HK := toHid (show _ ∧ _ ∧ _ from ⟨hPan, hOK, hE⟩)
    have HRE := toHid (show _ ∧ _ from ⟨own_ext HE7.out.2.2.2 hE HPB.out, HE7.out.2.2.1.ext hE HU2.out⟩)
    have HEW : Hid (Ext Nope w wo) := HE7.out.2.1.trans hE (fun i hi z => absurd (hFoot.out i z).1 (by have := HB.out; omega))
    clear hPan hOK hE
    by_cases hkm : k < m
    · obtain ⟨pre, r, post, e1, e2, e3, e4⟩ := take_split hkm HM.out
      obtain ⟨g, hg⟩ := RectsAt.at HRE.out.1 HM.out (by omega)
      subst hg
      have hF : Hid (Fits W xs.length r) := HP.out.1.fits r (by rw [e1]; simp)
      obtain ⟨d0, d1, d2, d3⟩ := rect_cells (rs := plan) HRE.out.1 e1
      rw [e2] at d0 d1 d2 d3
      have HTK := toHid (show _ ∧ _ from ⟨e3, e4⟩)
      have hi : Hid (r.i64) := hF.out.i64 (by rw [HX.out.1]; exact hH2)
      clear e1 e2 e3 e4
      have s1 : (0 : Int) ≤ (k : Int) := by omega
      have s2 : (k : Int) < (m : Int) := by omega
      go_upto_region 12 with fail
      clear s1 s2 d0 d1 d2 d3
      have KR := heap_alloc_new wo (.cells #[.int .i64 r.x, .int .i64 r.y, .int .i64 r.w, .int .i64 r.h] 31)
      have x8 : Ext Nope wo (wo.alloc (.cells #[.int .i64 r.x, .int .i64 r.y, .int .i64 r.w, .int .i64 r.h] 31)) := (Ext.refl _ _).alloc _
      generalize wo.alloc (.cells #[.int .i64 r.x, .int .i64 r.y, .int .i64 r.w, .int .i64 r.h] 31) = w8 at *
      have hNF : Hid (¬ Foot b rv wo.heap.size) := fun z => by have := (HK.out.1.foot _ z).2; omega
      have H8 := toHid (show _ ∧ _ ∧ _ from ⟨HK.out.1.ext x8 (fun _ _ z => z), HRE.out.2.ext0 x8, x8⟩)
      have SK : Hid (∀ w', Ext (Foot b rv) w8 w' → w'.cell? ⟨wo.heap.size, 0, none⟩ = some (.int .i64 r.x) ∧ w'.cell? ⟨wo.heap.size, 1, none⟩ = some (.int .i64 r.y) ∧ w'.cell? ⟨wo.heap.size, 2, none⟩ = some (.int .i64 r.w) ∧ w'.cell? ⟨wo.heap.size, 3, none⟩ = some (.int .i64 r.h)) := fun w' e => by
        have kk := (e.block _ (lt_of_heap KR) hNF.out).trans KR
        exact ⟨cell_of_blk kk 0, cell_of_blk kk 1, cell_of_blk kk 2, cell_of_blk kk 3⟩
      have HWR : Hid (writeA ⟨W, fillA ys xs (plan.take k), false, 0, 1 + k⟩ r (cutR ys r) = (0, ⟨W, fillA ys xs (plan.take (k + 1)), false, 0, 1 + (k + 1)⟩)) := by
        unfold Hid
        rw [write_steady hW2 (HX.out.2.1.trans HX.out.1.symm) (fill_length _ _ _) hF.out, HTK.out.1, HTK.out.2, fill_snoc]
        rfl
      have HOK : Hid (PanOK ⟨W, fillA ys xs (plan.take (k + 1)), false, 0, 1 + (k + 1)⟩) := by
        have h := (write_ok (c := r) (xs := cutR ys r) (M := 10) HK.out.2.1 (by simp only; omega) (by omega)).1
        rw [HWR.out] at h
        exact h
      clear KR x8
      refine wp_region_head 6 (fun w' => Ext (Foot b rv) w8 w' ∧ w'.cell? ⟨wo.heap.size, 0, none⟩ = some (.int .i64 r.x) ∧ w'.cell? ⟨wo.heap.size, 1, none⟩ = some (.int .i64 r.y) ∧ w'.cell? ⟨wo.heap.size, 2, none⟩ = some (.int .i64 r.w) ∧ w'.cell? ⟨wo.heap.size, 3, none⟩ = some (.int .i64 r.h)) (by kernel_rfl) (by kernel_rfl) ⟨(Ext.refl _ _).drew, SK.out _ (Ext.refl _ _).drew⟩ (fun hO hHeld => ?_)
      refine wpAnyT_takeD (i := 0) (d := some 52) (v := ?_) hO rfl rfl (by kernel_rfl) (fun _ _ _ h => h) (Or.inl ⟨by rfl, ?_⟩) (by exact hHeld) ?_
      rotate_left
      · intro w' hSw
        obtain ⟨_, z1, z2, z3, z4⟩ := hSw
        go_simp
        try (with_reducible rfl)
      try simp only [Act.put, List.setIfInBounds_toArray, List.set_cons_zero, List.set_cons_succ]
      refine wpAnyT_takeD (i := 1) (d := some 53) (v := ?_) hO rfl rfl (by kernel_rfl) (fun _ _ _ h => h) (Or.inl ⟨by rfl, ?_⟩) (by exact hHeld) ?_
      rotate_left
      · intro w' hSw
        obtain ⟨_, z1, z2, z3, z4⟩ := hSw
        go_simp
        try (with_reducible rfl)
      try simp only [Act.put, List.setIfInBounds_toArray, List.set_cons_zero, List.set_cons_succ]
      refine wpAnyT_takeD (i := 2) (d := some 54) (v := ?_) hO rfl rfl (by kernel_rfl) (fun _ _ _ h => h) (Or.inl ⟨by rfl, ?_⟩) (by exact hHeld) ?_
      rotate_left
      · intro w' hSw
        obtain ⟨_, z1, z2, z3, z4⟩ := hSw
        go_simp
        try (with_reducible rfl)
      try simp only [Act.put, List.setIfInBounds_toArray, List.set_cons_zero, List.set_cons_succ]
      refine wpAnyT_takeD (i := 3) (d := some 55) (v := ?_) hO rfl rfl (by kernel_rfl) (fun _ _ _ h => h) (Or.inl ⟨by rfl, ?_⟩) (by exact hHeld) ?_
      rotate_left
      · intro w' hSw
        obtain ⟨_, z1, z2, z3, z4⟩ := hSw
        go_simp
        try (with_reducible rfl)
      try simp only [Act.put, List.setIfInBounds_toArray, List.set_cons_zero, List.set_cons_succ]
      clear hHeld
      refine wpAnyT_one (i := 4) rfl (by kernel_rfl) (by rfl) (fun K hK => ?_)
      go_simp
      refine (cut_calls (H8.out.2.1.ext0 (Ext.refl Nope _).drew) (small_u64 hW2 HX.out.2.2.2) r hi.out (by rw [HX.out.2.1]; omega)).mono ?_
      rintro e w9 ⟨u9, rfl, r9, x9⟩
      have y9 : Ext (Foot b rv) w8 w9 := (Ext.refl (Foot b rv) w8).drew.trans x9 (fun _ _ z => False.elim z)
      have H9 := toHid (show _ ∧ _ ∧ _ from ⟨(H8.out.1.ext (Ext.refl Nope _).drew (fun _ _ z => z)).ext x9 (fun _ _ z => z), r9, y9⟩)
      clear r9 x9
      try go_simp
      refine hK.out _ _ ⟨y9, SK.out _ y9⟩ (fun hHeld => ?_)
      clear hK K y9
      try simp only [Act.put, List.setIfInBounds_toArray, List.set_cons_zero, List.set_cons_succ]
      clear hHeld
      refine wpAnyT_one (i := 5) rfl (by kernel_rfl) (by rfl) (fun K hK => ?_)
      go_simp
      refine (write_calls (c := r) H9.out.1 HK.out.2.1 (RowsAt.reads H9.out.2.1) (fun g hg z => by have h1 : w8.heap.size ≤ g := (World.ownsRow.lt H9.out.2.1 g hg).1; have h2 := (H8.out.1.foot g z).2; omega) (hF.out.cut_u64 hW2 (HX.out.2.1.trans HX.out.1.symm)) hi.out (by have := hF.out.cut_len hW2 (HX.out.2.1.trans HX.out.1.symm) (by rw [HX.out.1]; exact hH2); omega)).mono ?_
      rintro e w10 ⟨rfl, p10, x10⟩
      rw [HWR.out] at p10
      rw [HWR.out]
      have y10 : Ext (Foot b rv) w8 w10 := H9.out.2.2.trans x10 (fun _ _ z => z)
      have H10 := toHid (show _ ∧ _ from ⟨p10, y10⟩)
      clear p10 x10
      try go_simp
      refine hK.out _ _ ⟨y10, SK.out _ y10⟩ (fun hHeld => ?_)
      clear hK K y10
      try simp only [Act.put, List.setIfInBounds_toArray, List.set_cons_zero, List.set_cons_succ]
      clear hHeld
      refine wpAnyT_done (by kernel_rfl) ⟨by kernel_rfl, ?_⟩
      simp only [List.drop_succ_cons, List.drop_zero]
      go_wp2
      go_roundw
      case rel => exact ⟨k + 1, by go_num, by omega, H10.out.1, HOK.out, (HK.out.2.2.trans H8.out.2.2 (fun _ _ z => False.elim z)).trans H10.out.2 (fun _ _ z => z)⟩
      case measure => simp [intOf]; omega
    · have s2 : decide ((k : Int) < (m : Int)) = false := by simp; omega
      have s3 : decide (k < m) = false := by simp; omega
      have hkk : k = m := by omega
      subst hkk
      have hpan : Hid (PanAt wo w3.heap.size b rv ⟨W, ys, false, 0, 1 + k⟩) := by
        have h := HK.out.1
        rw [show plan.take k = plan by rw [← HM.out]; exact List.take_length, fill_plan hW2 HP.out.1 (HX.out.1.trans HX.out.2.1.symm) HX.out.2.2.1 HX.out.2.2.2] at h
        exact h
      have s7 : decide ((k : Int) ≤ (M : Int)) = true := by simp; omega
      have s8 : decide (k ≤ M) = true := by simp; omega
      go_wp2_with fail
      refine (updates_calls hpan.out).mono ?_
      rintro e w9 ⟨rfl, rfl⟩
      have s9 : ((1 + k : Nat) : Int) = 1 + (k : Int) := by omega
      simp only [s9]
      have s10 : decide ((1 : Int) + (k : Int) = IntKind.i64.wrap (1 + (k : Int))) = true := by rw [IntWalk.i64_in _ (by omega)]; simp
      go_wp2_with fail
      refine (pixels_calls hpan.out (by simp only; rw [HX.out.2.1]; exact hH2)).mono ?_
      rintro e w10 ⟨u10, rfl, r10, x10⟩
      have H10 := toHid (show _ ∧ _ ∧ _ from ⟨RowsAt.reads r10, HRE.out.2.ext0 x10, ext0 HEW.out x10⟩)
      clear r10 x10
      go_wp2_with fail
      refine (same_calls H10.out.1 H10.out.2.1).mono ?_
      rintro e w11 ⟨rfl, x11⟩
      have HE11 := toHid (show Ext Nope w w11 from ext0 H10.out.2.2 x11)
      rw [decide_eq_true rfl]
      clear x11
      go_wp2
      go_ret
      exact ⟨rfl, HE11.out⟩
end Go.Proofs.YtmmcadbkmfjcbaaDoor
