/-
  PanelFails: the walk.
-/
import Derived.Test.YtmmcadbkmfjcbaaDoorK6
import Derived.Test.YtmmcadbkmfjcbaaDoorP4
namespace Go.Proofs.YtmmcadbkmfjcbaaDoor
open Go.RowKit
attribute [local go_sem] alloc_drewN setCell_drewN

set_option maxRecDepth 100000 in
set_option maxHeartbeats 8000000 in
/-- abugidalaw33.PanelFails -/
theorem fails_calls {w : World} {v1 v2 : Value} {xs0 ys0 : List Nat} (ca cb cm q : Int) (hT : Tab w) (ha : 0 ≤ ca ∧ ca ≤ 255) (hb : 0 ≤ cb ∧ cb ≤ 255) (hm : 0 ≤ cm ∧ cm ≤ 255) (hr1 : Reads w v1 xs0) (hu1 : U64 xs0) (hr2 : Reads w v2 ys0) (hu2 : U64 ys0) (hq : 0 ≤ q ∧ q ≤ 255) :
    Calls Tryd.prog 7 #[.agg #[.int .u8 ca, .int .u8 cb, v1, v2, .int .u8 cm], .int .u8 q] w fun e w' => e = .returned (.bool true) ∧ Ext Nope w w' := by
  have HR := toHid (show _ ∧ _ ∧ _ ∧ _ ∧ _ from ⟨hr1, hu1, hr2, hu2, hT⟩)
  obtain ⟨av1, cap1, hv1, _⟩ := hr1
  obtain ⟨av2, cap2, hv2, _⟩ := hr2
  obtain ⟨l1, HL1⟩ : ∃ l, Hid (xs0.length = l) := ⟨_, rfl⟩
  obtain ⟨l2, HL2⟩ : ∃ l, Hid (ys0.length = l) := ⟨_, rfl⟩
  rw [HL1.out] at hv1
  rw [HL2.out] at hv2
  subst hv1 hv2
  obtain ⟨_, hW1, hW2⟩ := sizeW_eq ha
  obtain ⟨_, hH1, hH2⟩ := sizeW_eq hb
  have HS := toHid (fun W' => sizes_calls ca cb cm (.slice av1 l1 cap1) (.slice av2 l2 cap2) W' ha hb)
  have HRW := toHid (fun W' (e : Ext Nope w W') => rows_calls ca cb cm W' ha hb (HR.out.1.ext0 e) hu1 (HR.out.2.2.1.ext0 e) hu2)
  generalize sizeW ca = W at *
  generalize sizeW cb = H at *
  have HX := toHid (show _ ∧ _ ∧ _ ∧ _ from ⟨made_length xs0 W H, made_length ys0 W H, made_small xs0 W H, made_small ys0 W H⟩)
  obtain ⟨xs, hxs⟩ : ∃ xs, Hid (madeA xs0 W H = xs) := ⟨_, rfl⟩
  obtain ⟨ys, hys⟩ : ∃ ys, Hid (madeA ys0 W H = ys) := ⟨_, rfl⟩
  rw [hxs.out, hys.out] at HX
  have HLE : Hid (xs.length = ys.length) := HX.out.1.trans HX.out.2.1.symm
  obtain ⟨M, hM⟩ : ∃ M : Nat, 1 + cm % 9 = (M : Int) := ⟨(1 + cm % 9).toNat, by omega⟩
  have hM1 : 1 ≤ M ∧ M ≤ 9 := by omega
  have t0 : cm.tmod 9 = (M : Int) - 1 := by rw [Int.tmod_eq_emod_of_nonneg hm.1]; omega
  have t2 : IntKind.i64.wrap (1 + ((M : Int) - 1)) = (M : Int) := by rw [show 1 + ((M : Int) - 1) = (M : Int) by omega]; exact IntWalk.i64_in _ (by omega)
  have p0 : IntKind.i64.wrap cm = cm := IntWalk.i64_in _ (by omega)
  have p1 : IntKind.i64.wrap q = q := IntWalk.i64_in _ (by omega)
  have HTT := toHid (show _ ∧ _ ∧ _ ∧ _ from ⟨t0, t2, p0, p1⟩)
  have HP := toHid (planA_of hW1 hW2 HLE.out (by rw [HX.out.1]; exact hH2) hM1.1)
  clear hT hM t0 t2 p0 p1 hu1 hu2
  go_enter Tryd.func7, Tryd.ntmps7
  go_wp2_with fail
  have e0 : Ext Nope w (w.alloc (.cells #[.int .u8 ca, .int .u8 cb, .slice av1 l1 cap1, .slice av2 l2 cap2, .int .u8 cm] 53)) := (Ext.refl _ _).alloc _
  refine (sanity_calls _ (HR.out.2.2.2.2.ext0 e0)).mono ?_
  rintro e w1 ⟨rfl, x1⟩
  have k0 := (x1.block w.heap.size (by simp) (fun z => z)).trans (heap_alloc_new w (.cells #[.int .u8 ca, .int .u8 cb, .slice av1 l1 cap1, .slice av2 l2 cap2, .int .u8 cm] 53))
  have c0 := cell_of_blk k0 0
  have c1 := cell_of_blk k0 1
  have c2 := cell_of_blk k0 2
  have c3 := cell_of_blk k0 3
  have c4 := cell_of_blk k0 4
  have HE1 := toHid (show _ ∧ _ from ⟨ext0 e0 x1, k0⟩)
  clear e0 x1 k0
  go_wp2_with fail
  refine (HS.out w1).mono ?_
  rintro e w2 ⟨rfl, x2⟩
  have k0 := (x2.block w.heap.size (lt_of_heap HE1.out.2) (fun z => z)).trans HE1.out.2
  clear c0 c1 c2 c3 c4
  have c0 := cell_of_blk k0 0
  have c1 := cell_of_blk k0 1
  have c2 := cell_of_blk k0 2
  have c3 := cell_of_blk k0 3
  have c4 := cell_of_blk k0 4
  have HE2 := toHid (show _ ∧ _ from ⟨ext0 HE1.out.1 x2, k0⟩)
  clear x2 k0 HE1 HS
  go_wp2_with fail
  refine (HRW.out _ HE2.out.1).mono ?_
  rintro e w3 ⟨u1, u2, rfl, r1, r2, x3⟩
  rw [hxs.out] at r1
  rw [hys.out] at r2
  have k0 := (x3.block w.heap.size (lt_of_heap HE2.out.2) (fun z => z)).trans HE2.out.2
  clear c0 c1 c2 c3 c4
  have HE3 := toHid (show _ ∧ _ ∧ _ ∧ _ from ⟨ext0 HE2.out.1 x3, r1, r2, k0⟩)
  clear x3 k0 HE2 HRW r1 r2
  go_wp2_with fail
  refine (shows_calls W hW1 hW2 (RowsAt.reads HE3.out.2.1) (fun g hg => (World.ownsRow.lt HE3.out.2.1 g hg).2) HX.out.2.2.1 (by rw [HX.out.1]; exact hH1) (by rw [HX.out.1]; exact hH2)).mono ?_
  rintro e w4 ⟨b, rv, rfl, hp, x4⟩
  have hFoot : Hid (∀ k, Foot b rv k → w3.heap.size ≤ k ∧ k < w4.heap.size) := hp.foot
  have HU1 : Hid (∀ g, u1.ownBlock = some g → ¬ Foot b rv g) := fun g hg z => by have := (World.ownsRow.lt HE3.out.2.1 g hg).2; have := (hFoot.out g z).1; omega
  have HU2 : Hid (∀ g, u2.ownBlock = some g → ¬ Foot b rv g) := fun g hg z => by have := (World.ownsRow.lt HE3.out.2.2.1 g hg).2; have := (hFoot.out g z).1; omega
  have HB : Hid (w.heap.size ≤ w3.heap.size) := HE3.out.1.size
  have HE4 := toHid (show _ ∧ _ ∧ _ ∧ _ ∧ _ from ⟨hp, ext0 HE3.out.1 x4, own_ext HE3.out.2.1 x4 (fun _ _ z => z), own_ext HE3.out.2.2.1 x4 (fun _ _ z => z), (x4.block _ (lt_of_heap HE3.out.2.2.2) (fun z => z)).trans HE3.out.2.2.2⟩)
  have HWB : Hid (¬ Foot b rv w.heap.size) := fun z => by have := (hFoot.out _ z).1; have := lt_of_heap HE3.out.2.2.2; omega
  clear hp x4 HE3
  have p1 := HTT.out.2.2.2
  go_wp2_with fail
  refine (fail_calls HE4.out.1 q).mono ?_
  rintro e w5 ⟨rfl, p5, x5⟩
  rw [fail_on hW1, decide_eq_true hq.1] at p5
  have k0 := (x5.block w.heap.size (lt_of_heap HE4.out.2.2.2.2) HWB.out).trans HE4.out.2.2.2.2
  have HE5 := toHid (show _ ∧ _ ∧ _ ∧ _ from ⟨p5, HE4.out.2.1.trans x5 (fun i hi z => absurd (hFoot.out i z).1 (by have := HB.out; omega)), own_ext HE4.out.2.2.1 x5 HU1.out, own_ext HE4.out.2.2.2.1 x5 HU2.out⟩)
  have HB5 : Hid (w4.heap.size ≤ w5.heap.size) := x5.size
  clear p5 x5 HE4
  have c4 := cell_of_blk k0 4
  obtain ⟨t0, t2, p0, _⟩ := HTT.out
  clear k0
  go_wp2_with fail
  clear t0 t2 p0 c4
  refine (plan_calls W M (RowsAt.reads HE5.out.2.2.1) (RowsAt.reads HE5.out.2.2.2) (HR.out.2.2.2.2.ext0 HE5.out.2.1) (small_u64 hW2 HX.out.2.2.1) (small_u64 hW2 HX.out.2.2.2)).mono ?_
  rintro e w7 ⟨pv, rfl, r7, x7⟩
  have HE7 := toHid (show _ ∧ _ ∧ _ ∧ _ ∧ _ from ⟨HE5.out.1.ext x7 (fun _ _ z => z), ext0 HE5.out.2.1 x7, own_ext HE5.out.2.2.1 x7 (fun _ _ z => z), own_ext HE5.out.2.2.2 x7 (fun _ _ z => z), r7⟩)
  have HPB : Hid (∀ g, pv.ownBlock = some g → ¬ Foot b rv g) := fun g hg z => by have := (World.ownsRow.lt r7 g hg).1; have := (hFoot.out g z).2; have := HB5.out; omega
  clear x7 HE5 HB5
  generalize planA W M xs ys = plan at *
  obtain ⟨m, HM⟩ : ∃ m, Hid (plan.length = m) := ⟨_, rfl⟩
  obtain ⟨pa, pcap, hpv, hpc, hpc2, _⟩ := own_gen r7
  rw [HM.out] at hpv hpc
  subst hpv
  have hm9 : m ≤ M := by have := HP.out.2; rw [HM.out] at this; exact this
  have HOK1 : Hid (PanOK ⟨W, xs, true, q, 1⟩) := ⟨hW2, by show xs.length ≤ 64; rw [HX.out.1]; exact hH2, small_u64 hW2 HX.out.2.2.1, fun _ => by simp only; omega, by simp only; omega, by simp only; omega, by simp⟩
  clear r7 p1
  go_wp2_with fail
  go_loopw [11, 12, 50] (fun wv fv i wr => ∃ (k : Nat) (S : Int) (fb : Bool) (rows : List Nat) (many : Nat), i = .int .i64 k ∧ wv = .int .i64 S ∧ fv = .bool fb ∧ k ≤ m ∧ S = sumH (plan.take k) ∧ (fb = true ↔ q < S) ∧ PanAt wr w3.heap.size b rv ⟨W, rows, true, if S ≤ q then q - S else -1, many⟩ ∧ PanOK ⟨W, rows, true, if S ≤ q then q - S else -1, many⟩ ∧ many ≤ 1 + k ∧ Mid xs ys rows ∧ Ext (Foot b rv) w7 wr) (fun _ _ i _ => m - (intOf i).toNat)
  case atStart => exact ⟨0, 0, false, xs, 1, rfl, rfl, rfl, by omega, rfl, by constructor <;> (intro h; first | cases h | omega), by rw [if_pos hq.1, Int.sub_zero]; exact HE7.out.1, by rw [if_pos hq.1, Int.sub_zero]; exact HOK1.out, by omega, Mid.start HLE.out, Ext.refl _ _⟩
  case round =>
    obtain ⟨k, S, fb, rows, many, rfl, rfl, rfl, hk, hS, hfb, hPan, hOK, hmn, hMid, hE⟩ := hrel
    rename World => wo
    have HK := toHid (show _ ∧ _ ∧ _ ∧ _ ∧ _ ∧ _ from ⟨hPan, hOK, hE, hMid, hS, hfb⟩)
    have HRE := toHid (show _ ∧ _ ∧ _ from ⟨own_ext HE7.out.2.2.2.2 hE HPB.out, own_ext HE7.out.2.2.1 hE HU1.out, own_ext HE7.out.2.2.2.1 hE HU2.out⟩)
    have HEW : Hid (Ext Nope w wo) := HE7.out.2.1.trans hE (fun i hi z => absurd (hFoot.out i z).1 (by have := HB.out; omega))
    have hS2 : 0 ≤ S ∧ S ≤ 576 := by
      have h := sumH_bound (W := W) (K := xs.length) (by rw [HX.out.1]; exact hH2) (plan.take k) (fun r hr => HP.out.1.fits r (List.mem_of_mem_take hr))
      rw [List.length_take, HM.out] at h
      omega
    clear hPan hOK hE hMid hS hfb
    by_cases hkm : k < m
    · obtain ⟨pre, r, post, e1, e2, e3, e4⟩ := take_split hkm HM.out
      obtain ⟨g, hg⟩ := RectsAt.at HRE.out.1 HM.out (by omega)
      subst hg
      have hF : Hid (Fits W xs.length r) := HP.out.1.fits r (by rw [e1]; simp)
      obtain ⟨d0, d1, d2, d3⟩ := rect_cells (rs := plan) HRE.out.1 e1
      rw [e2] at d0 d1 d2 d3
      have HTK : Hid (sumH (plan.take (k + 1)) = S + r.h) := by unfold Hid; rw [e4, sumH_snoc, HK.out.2.2.2.2.1, e3]
      have hi : Hid (r.i64) := hF.out.i64 (by rw [HX.out.1]; exact hH2)
      have hrh : 1 ≤ r.h ∧ r.h ≤ 64 := by
        obtain ⟨X, Y, w', h', rfl, h1, h2, h3, h4⟩ := hF.out.nat
        rw [HX.out.1] at h4
        simp only
        omega
      clear e1 e2 e3 e4
      have s1 : (0 : Int) ≤ (k : Int) := by omega
      have s2 : (k : Int) < (m : Int) := by omega
      go_upto_region 12 with fail
      clear s1 s2 d0 d1 d2 d3
      have KR := heap_alloc_new wo (.cells #[.int .i64 r.x, .int .i64 r.y, .int .i64 r.w, .int .i64 r.h] 31)
      have x8 : Ext Nope wo (wo.alloc (.cells #[.int .i64 r.x, .int .i64 r.y, .int .i64 r.w, .int .i64 r.h] 31)) := (Ext.refl _ _).alloc _
      generalize wo.alloc (.cells #[.int .i64 r.x, .int .i64 r.y, .int .i64 r.w, .int .i64 r.h] 31) = w8 at *
      have hNF : Hid (¬ Foot b rv wo.heap.size) := fun z => by have := (HK.out.1.foot _ z).2; omega
      have H8 := toHid (show _ ∧ _ ∧ _ from ⟨HK.out.1.ext x8 (fun _ _ z => z), (RowsAt.reads HRE.out.2.2).ext0 x8, x8⟩)
      have SK : Hid (∀ w', Ext (Foot b rv) w8 w' → w'.cell? ⟨wo.heap.size, 0, none⟩ = some (.int .i64 r.x) ∧ w'.cell? ⟨wo.heap.size, 1, none⟩ = some (.int .i64 r.y) ∧ w'.cell? ⟨wo.heap.size, 2, none⟩ = some (.int .i64 r.w) ∧ w'.cell? ⟨wo.heap.size, 3, none⟩ = some (.int .i64 r.h)) := fun w' e => by
        have kk := (e.block _ (lt_of_heap KR) hNF.out).trans KR
        exact ⟨cell_of_blk kk 0, cell_of_blk kk 1, cell_of_blk kk 2, cell_of_blk kk 3⟩
      obtain ⟨E, rows', many', hWR, hEc, hMid'⟩ := write_fail (m := many) (q := q) (S := S) hW2 HK.out.2.2.2.1 (by rw [← HLE.out]; exact hF.out)
      have HWR := toHid hWR
      have HOK : Hid (PanOK ⟨W, rows', true, if S + r.h ≤ q then q - (S + r.h) else -1, many'⟩ ∧ many' ≤ 1 + (k + 1)) := by
        have h := write_ok (c := r) (xs := cutR ys r) (M := 1 + k) HK.out.2.1 hmn (by omega)
        rw [HWR.out] at h
        exact ⟨h.1, h.2.1⟩
      have HMid := toHid hMid'
      clear KR x8 hWR hMid'
      refine wp_region_head 6 (fun w' => Ext (Foot b rv) w8 w' ∧ w'.cell? ⟨wo.heap.size, 0, none⟩ = some (.int .i64 r.x) ∧ w'.cell? ⟨wo.heap.size, 1, none⟩ = some (.int .i64 r.y) ∧ w'.cell? ⟨wo.heap.size, 2, none⟩ = some (.int .i64 r.w) ∧ w'.cell? ⟨wo.heap.size, 3, none⟩ = some (.int .i64 r.h)) (by kernel_rfl) (by kernel_rfl) ⟨(Ext.refl _ _).drew, SK.out _ (Ext.refl _ _).drew⟩ (fun hO hHeld => ?_)
      refine wpAnyT_takeD (i := 0) (d := some 54) (v := ?_) hO rfl rfl (by kernel_rfl) (fun _ _ _ h => h) (Or.inl ⟨by rfl, ?_⟩) (by exact hHeld) ?_
      rotate_left
      · intro w' hSw
        obtain ⟨_, z1, z2, z3, z4⟩ := hSw
        go_simp
        try (with_reducible rfl)
      try simp only [Act.put, List.setIfInBounds_toArray, List.set_cons_zero, List.set_cons_succ]
      refine wpAnyT_takeD (i := 1) (d := some 55) (v := ?_) hO rfl rfl (by kernel_rfl) (fun _ _ _ h => h) (Or.inl ⟨by rfl, ?_⟩) (by exact hHeld) ?_
      rotate_left
      · intro w' hSw
        obtain ⟨_, z1, z2, z3, z4⟩ := hSw
        go_simp
        try (with_reducible rfl)
      try simp only [Act.put, List.setIfInBounds_toArray, List.set_cons_zero, List.set_cons_succ]
      refine wpAnyT_takeD (i := 2) (d := some 56) (v := ?_) hO rfl rfl (by kernel_rfl) (fun _ _ _ h => h) (Or.inl ⟨by rfl, ?_⟩) (by exact hHeld) ?_
      rotate_left
      · intro w' hSw
        obtain ⟨_, z1, z2, z3, z4⟩ := hSw
        go_simp
        try (with_reducible rfl)
      try simp only [Act.put, List.setIfInBounds_toArray, List.set_cons_zero, List.set_cons_succ]
      refine wpAnyT_takeD (i := 3) (d := some 57) (v := ?_) hO rfl rfl (by kernel_rfl) (fun _ _ _ h => h) (Or.inl ⟨by rfl, ?_⟩) (by exact hHeld) ?_
      rotate_left
      · intro w' hSw
        obtain ⟨_, z1, z2, z3, z4⟩ := hSw
        go_simp
        try (with_reducible rfl)
      try simp only [Act.put, List.setIfInBounds_toArray, List.set_cons_zero, List.set_cons_succ]
      clear hHeld
      refine wpAnyT_one (i := 4) rfl (by kernel_rfl) (by rfl) (fun K hK => ?_)
      go_simp
      refine (cut_calls (H8.out.2.1.ext0 (Ext.refl Nope _).drew) (small_u64 hW2 HX.out.2.2.2) r hi.out (by rw [HX.out.2.1]; omega)).mono ?_
      rintro e w9 ⟨u9, rfl, r9, x9⟩
      have y9 : Ext (Foot b rv) w8 w9 := (Ext.refl (Foot b rv) w8).drew.trans x9 (fun _ _ z => False.elim z)
      have H9 := toHid (show _ ∧ _ ∧ _ from ⟨(H8.out.1.ext (Ext.refl Nope _).drew (fun _ _ z => z)).ext x9 (fun _ _ z => z), r9, y9⟩)
      clear r9 x9
      try go_simp
      refine hK.out _ _ ⟨y9, SK.out _ y9⟩ (fun hHeld => ?_)
      clear hK K y9
      try simp only [Act.put, List.setIfInBounds_toArray, List.set_cons_zero, List.set_cons_succ]
      clear hHeld
      refine wpAnyT_one (i := 5) rfl (by kernel_rfl) (by rfl) (fun K hK => ?_)
      go_simp
      refine (write_calls (c := r) H9.out.1 HK.out.2.1 (RowsAt.reads H9.out.2.1) (fun g hg z => by have h1 : w8.heap.size ≤ g := (World.ownsRow.lt H9.out.2.1 g hg).1; have h2 := (H8.out.1.foot g z).2; omega) (hF.out.cut_u64 hW2 HLE.out.symm) hi.out (by have := hF.out.cut_len hW2 HLE.out.symm (by rw [HX.out.1]; exact hH2); omega)).mono ?_
      rintro e w10 ⟨rfl, p10, x10⟩
      rw [HWR.out] at p10
      rw [HWR.out]
      have y10 : Ext (Foot b rv) w8 w10 := H9.out.2.2.trans x10 (fun _ _ z => z)
      have H10 := toHid (show _ ∧ _ from ⟨p10, y10⟩)
      clear p10 x10
      try go_simp
      refine hK.out _ _ ⟨y10, SK.out _ y10⟩ (fun hHeld => ?_)
      clear hK K
      try simp only [Act.put, List.setIfInBounds_toArray, List.set_cons_zero, List.set_cons_succ]
      clear hHeld
      refine wpAnyT_done (by kernel_rfl) ⟨by kernel_rfl, ?_⟩
      simp only [List.drop_succ_cons, List.drop_zero]
      have d3 := (SK.out _ y10).2.2.2
      have p1 := HTT.out.2.2.2
      have t3 : IntKind.i64.wrap (S + r.h) = S + r.h := IntWalk.i64_in _ (by omega)
      have hrel : Hid (∀ fb' : Bool, (fb' = true ↔ q < S + r.h) → ∃ (k' : Nat) (S' : Int) (fb'' : Bool) (rows : List Nat) (many : Nat), Value.int .i64 ((k : Int) + 1) = .int .i64 k' ∧ Value.int .i64 (S + r.h) = .int .i64 S' ∧ Value.bool fb' = .bool fb'' ∧ k' ≤ m ∧ S' = sumH (plan.take k') ∧ (fb'' = true ↔ q < S') ∧ PanAt w10 w3.heap.size b rv ⟨W, rows, true, if S' ≤ q then q - S' else -1, many⟩ ∧ PanOK ⟨W, rows, true, if S' ≤ q then q - S' else -1, many⟩ ∧ many ≤ 1 + k' ∧ Mid xs ys rows ∧ Ext (Foot b rv) w7 w10) := fun fb' hfb' =>
        ⟨k + 1, S + r.h, fb', rows', many', by go_num, rfl, rfl, by omega, HTK.out.symm, hfb', H10.out.1, HOK.out.1, HOK.out.2, HMid.out, (HK.out.2.2.1.trans H8.out.2.2 (fun _ _ z => False.elim z)).trans H10.out.2 (fun _ _ z => z)⟩
      clear y10
      rcases hEc with ⟨hs, rfl⟩ | ⟨hs, rfl⟩
      · obtain rfl : fb = false := by
          cases fb with
          | false => rfl
          | true => have := HK.out.2.2.2.2.2.1 rfl; omega
        have g1 : decide (q < S + r.h) = false := by simp; omega
        go_wp2
        go_roundw
        case rel => exact hrel.out false (by simp; omega)
        case measure => simp [intOf]; omega
      · have g1 : decide (q < S + r.h) = true := by simp; omega
        cases fb
        · go_wp2
          go_roundw
          case rel => exact hrel.out true (by simp; omega)
          case measure => simp [intOf]; omega
        · go_wp2
          go_roundw
          case rel => exact hrel.out true (by simp; omega)
          case measure => simp [intOf]; omega
    · have s2 : decide ((k : Int) < (m : Int)) = false := by simp; omega
      have s3 : decide (k < m) = false := by simp; omega
      have hkk : k = m := by omega
      clear hkk
      go_wp2_with fail
      have hmany : many ≤ 10 := by omega
      have hrl : Hid (rows.length = H) := HK.out.2.2.2.1.len.trans HX.out.2.1
      refine (pixels_calls HK.out.1 (by show rows.length ≤ 64; rw [hrl.out]; exact hH2)).mono ?_
      rintro e w11 ⟨u11, rfl, r11, x11⟩
      have H11 := toHid (show _ ∧ _ ∧ _ ∧ _ ∧ _ from ⟨HK.out.1.ext x11 (fun _ _ z => z), r11, own_ext HRE.out.2.1 x11 (fun _ _ z => z), own_ext HRE.out.2.2 x11 (fun _ _ z => z), ext0 HEW.out x11⟩)
      have HN11 : Hid (∀ g, u11.ownBlock = some g → ¬ Foot b rv g) := fun g hg z => by have := (World.ownsRow.lt r11 g hg).1; have := (HK.out.1.foot g z).2; omega
      obtain ⟨na, nc, hvn, _, _, hgn⟩ := own_gen r11
      rw [hrl.out] at hvn hgn
      obtain ⟨ng, rfl⟩ := hgn (by omega)
      subst hvn
      obtain ⟨oa, oc, hvo, _, _, hgo⟩ := own_gen HRE.out.2.1
      rw [HX.out.1] at hvo hgo
      obtain ⟨og, rfl⟩ := hgo (by omega)
      subst hvo
      obtain ⟨ya, yc, hvy, _, _, hgy⟩ := own_gen HRE.out.2.2
      rw [HX.out.2.1] at hvy hgy
      obtain ⟨yg, rfl⟩ := hgy (by omega)
      subst hvy
      clear r11 x11
      go_wp2_with fail
      go_loopw [17] (fun i wr => ∃ t : Nat, i = .int .i64 t ∧ t ≤ H ∧ Ext Nope w11 wr) (fun i _ => H - (intOf i).toNat)
      case atStart => exact ⟨0, rfl, by omega, Ext.refl _ _⟩
      case round =>
        obtain ⟨t, rfl, ht, hEt⟩ := hrel
        rename World => wv
        have HVE := toHid hEt
        have HV := toHid (show _ ∧ _ ∧ _ ∧ _ ∧ _ from ⟨H11.out.1.ext hEt (fun _ _ z => z), own_ext H11.out.2.1 hEt (fun _ _ z => z), own_ext H11.out.2.2.1 hEt (fun _ _ z => z), own_ext H11.out.2.2.2.1 hEt (fun _ _ z => z), ext0 H11.out.2.2.2.2 hEt⟩)
        clear hEt
        by_cases htn : t < H
        · obtain ⟨x, hx⟩ := some_at (xs := rows) (k := t) (n := H) htn hrl.out
          obtain ⟨a, hxa⟩ := some_at (xs := xs) (k := t) (n := H) htn HX.out.1
          obtain ⟨y, hy⟩ := some_at (xs := ys) (k := t) (n := H) htn HX.out.2.1
          have d1 : wv.cell? ⟨ng, t, none⟩ = some (.int .u64 (x : Int)) := RowsAt.cell HV.out.2.1 hx
          have d2 : wv.cell? ⟨og, t, none⟩ = some (.int .u64 (a : Int)) := RowsAt.cell HV.out.2.2.1 hxa
          have d3 : wv.cell? ⟨yg, t, none⟩ = some (.int .u64 (y : Int)) := RowsAt.cell HV.out.2.2.2.1 hy
          have hz : bits .and .u64 (bits .xor .u64 (x : Int) (a : Int)) (bits .xor .u64 (x : Int) (y : Int)) = 0 := by
            have h1 : x < 2 ^ 64 := small_u64 hW2 (HK.out.2.2.2.1.small HX.out.2.2.1 HX.out.2.2.2) x (List.mem_of_getElem? hx)
            have h2 : a < 2 ^ 64 := small_u64 hW2 HX.out.2.2.1 a (List.mem_of_getElem? hxa)
            have h3 : y < 2 ^ 64 := small_u64 hW2 HX.out.2.2.2 y (List.mem_of_getElem? hy)
            rw [bits_xor_u64_nat x a h1 h2, bits_xor_u64_nat x y h1 h3, bits_and_u64_nat _ _ (show x ^^^ a < 2 ^ 64 from Nat.xor_lt_two_pow h1 h2) (show x ^^^ y < 2 ^ 64 from Nat.xor_lt_two_pow h1 h3)]
            have h := HK.out.2.2.2.1.none t
            rw [getD_of hx, getD_of hxa, getD_of hy] at h
            rw [h]
            rfl
          have s1 : (0 : Int) ≤ (t : Int) := by omega
          have s2 : (t : Int) < (H : Int) := by omega
          clear hx hxa hy
          go_upto_region 24 with fail
          go_quiet (fail)
          clear d1 d2 d3 hz s1
          go_wp2
          go_roundw
          case rel => exact ⟨t + 1, by go_num, by omega, HVE.out.drewN _⟩
          case measure => simp [intOf]; omega
        · have s4 : decide ((t : Int) < (H : Int)) = false := by simp; omega
          have s5 : decide (t < H) = false := by simp; omega
          go_wp2_with fail
          refine (fail_calls HV.out.1 (-1)).mono ?_
          rintro e w12 ⟨rfl, p12, x12⟩
          rw [fail_on hW1, show decide ((0 : Int) ≤ -1) = false from rfl] at p12
          have H12 := toHid (show _ ∧ _ ∧ _ ∧ _ from ⟨p12, own_ext HV.out.2.1 x12 HN11.out, own_ext HV.out.2.2.2.1 x12 HU2.out, HV.out.2.2.2.2.trans x12 (fun i hi z => absurd (hFoot.out i z).1 (by have := HB.out; omega))⟩)
          clear p12 x12
          go_wp2_with fail
          have HSM := toHid (HK.out.2.2.2.1.small HX.out.2.2.1 HX.out.2.2.2)
          have HP2 : Hid (PlanOf W rows ys (planA W 3 rows ys) ∧ (planA W 3 rows ys).length ≤ 3) := planA_of (many := 3) hW1 hW2 HK.out.2.2.2.1.len (by rw [hrl.out]; exact hH2) (by omega)
          refine (plan_calls W 3 (RowsAt.reads H12.out.2.1) (RowsAt.reads H12.out.2.2.1) (HR.out.2.2.2.2.ext0 H12.out.2.2.2) (small_u64 hW2 HSM.out) (small_u64 hW2 HX.out.2.2.2)).mono ?_
          rintro e w13 ⟨pv2, rfl, r13, x13⟩
          have H13 := toHid (show _ ∧ _ ∧ _ ∧ _ from ⟨H12.out.1.ext x13 (fun _ _ z => z), own_ext H12.out.2.2.1 x13 (fun _ _ z => z), ext0 H12.out.2.2.2 x13, r13⟩)
          have HPB2 : Hid (∀ g, pv2.ownBlock = some g → ¬ Foot b rv g) := fun g hg z => by have := (World.ownsRow.lt r13 g hg).1; have := (H12.out.1.foot g z).2; omega
          clear x13
          generalize planA W 3 rows ys = plan2 at *
          obtain ⟨m2, HM2⟩ : ∃ m2, Hid (plan2.length = m2) := ⟨_, rfl⟩
          obtain ⟨pa2, pcap2, hpv2, hpc22, hpc23, _⟩ := own_gen r13
          rw [HM2.out] at hpv2 hpc22
          subst hpv2
          have hm29 : m2 ≤ 3 := by have := HP2.out.2; rw [HM2.out] at this; exact this
          clear r13
          go_wp2_with fail
          go_loopw [131] (fun i wr => ∃ t2 : Nat, i = .int .i64 t2 ∧ t2 ≤ m2 ∧ PanAt wr w3.heap.size b rv ⟨W, fillA ys rows (plan2.take t2), false, -1, many + t2⟩ ∧ PanOK ⟨W, fillA ys rows (plan2.take t2), false, -1, many + t2⟩ ∧ Ext (Foot b rv) w13 wr) (fun i _ => m2 - (intOf i).toNat)
          case atStart => exact ⟨0, rfl, by omega, H13.out.1, ⟨hW2, by rw [List.take_zero]; show rows.length ≤ 64; rw [hrl.out]; exact hH2, by rw [List.take_zero]; exact small_u64 hW2 HSM.out, fun h => by simp at h, by simp, by simp, by simp only; omega⟩, Ext.refl _ _⟩
          case round =>
            obtain ⟨t2, rfl, ht2, hPan, hOK, hE⟩ := hrel
            rename World => wp
            have HKK := toHid (show _ ∧ _ ∧ _ from ⟨hPan, hOK, hE⟩)
            have HRE2 := toHid (show _ ∧ _ from ⟨own_ext H13.out.2.2.2 hE HPB2.out, RowsAt.reads (own_ext H13.out.2.1 hE HU2.out)⟩)
            have HEW2 : Hid (Ext Nope w wp) := H13.out.2.2.1.trans hE (fun i hi z => absurd (hFoot.out i z).1 (by have := HB.out; omega))
            clear hPan hOK hE
            by_cases hkm2 : t2 < m2
            · obtain ⟨pre, r, post, e1, e2, e3, e4⟩ := take_split hkm2 HM2.out
              obtain ⟨g, hg⟩ := RectsAt.at HRE2.out.1 HM2.out (by omega)
              subst hg
              have hF : Hid (Fits W rows.length r) := HP2.out.1.fits r (by rw [e1]; simp)
              obtain ⟨d0, d1, d2, d3⟩ := rect_cells (rs := plan2) HRE2.out.1 e1
              rw [e2] at d0 d1 d2 d3
              have HTK := toHid (show _ ∧ _ from ⟨e3, e4⟩)
              have hi : Hid (r.i64) := hF.out.i64 (by rw [hrl.out]; exact hH2)
              clear e1 e2 e3 e4
              have s1 : (0 : Int) ≤ (t2 : Int) := by omega
              have s2 : (t2 : Int) < (m2 : Int) := by omega
              go_upto_region 30 with fail
              clear s1 s2 d0 d1 d2 d3
              have KR := heap_alloc_new wp (.cells #[.int .i64 r.x, .int .i64 r.y, .int .i64 r.w, .int .i64 r.h] 31)
              have x8 : Ext Nope wp (wp.alloc (.cells #[.int .i64 r.x, .int .i64 r.y, .int .i64 r.w, .int .i64 r.h] 31)) := (Ext.refl _ _).alloc _
              generalize wp.alloc (.cells #[.int .i64 r.x, .int .i64 r.y, .int .i64 r.w, .int .i64 r.h] 31) = w8 at *
              have hNF : Hid (¬ Foot b rv wp.heap.size) := fun z => by have := (HKK.out.1.foot _ z).2; omega
              have H8 := toHid (show _ ∧ _ ∧ _ from ⟨HKK.out.1.ext x8 (fun _ _ z => z), HRE2.out.2.ext0 x8, x8⟩)
              have SK : Hid (∀ w', Ext (Foot b rv) w8 w' → w'.cell? ⟨wp.heap.size, 0, none⟩ = some (.int .i64 r.x) ∧ w'.cell? ⟨wp.heap.size, 1, none⟩ = some (.int .i64 r.y) ∧ w'.cell? ⟨wp.heap.size, 2, none⟩ = some (.int .i64 r.w) ∧ w'.cell? ⟨wp.heap.size, 3, none⟩ = some (.int .i64 r.h)) := fun w' e => by
                have kk := (e.block _ (lt_of_heap KR) hNF.out).trans KR
                exact ⟨cell_of_blk kk 0, cell_of_blk kk 1, cell_of_blk kk 2, cell_of_blk kk 3⟩
              have HWR : Hid (writeA ⟨W, fillA ys rows (plan2.take t2), false, -1, many + t2⟩ r (cutR ys r) = (0, ⟨W, fillA ys rows (plan2.take (t2 + 1)), false, -1, many + (t2 + 1)⟩)) := by
                unfold Hid
                rw [write_steady hW2 HK.out.2.2.2.1.len.symm (fill_length _ _ _) hF.out, HTK.out.1, HTK.out.2, fill_snoc]
                rfl
              have HOK : Hid (PanOK ⟨W, fillA ys rows (plan2.take (t2 + 1)), false, -1, many + (t2 + 1)⟩) := by
                have h := (write_ok (c := r) (xs := cutR ys r) (M := 20) HKK.out.2.1 (by simp only; omega) (by omega)).1
                rw [HWR.out] at h
                exact h
              clear KR x8
              refine wp_region_head 6 (fun w' => Ext (Foot b rv) w8 w' ∧ w'.cell? ⟨wp.heap.size, 0, none⟩ = some (.int .i64 r.x) ∧ w'.cell? ⟨wp.heap.size, 1, none⟩ = some (.int .i64 r.y) ∧ w'.cell? ⟨wp.heap.size, 2, none⟩ = some (.int .i64 r.w) ∧ w'.cell? ⟨wp.heap.size, 3, none⟩ = some (.int .i64 r.h)) (by kernel_rfl) (by kernel_rfl) ⟨(Ext.refl _ _).drew, SK.out _ (Ext.refl _ _).drew⟩ (fun hO hHeld => ?_)
              refine wpAnyT_takeD (i := 0) (d := some 135) (v := ?_) hO rfl rfl (by kernel_rfl) (fun _ _ _ h => h) (Or.inl ⟨by rfl, ?_⟩) (by exact hHeld) ?_
              rotate_left
              · intro w' hSw
                obtain ⟨_, z1, z2, z3, z4⟩ := hSw
                go_simp
                try (with_reducible rfl)
              try simp only [Act.put, List.setIfInBounds_toArray, List.set_cons_zero, List.set_cons_succ]
              refine wpAnyT_takeD (i := 1) (d := some 136) (v := ?_) hO rfl rfl (by kernel_rfl) (fun _ _ _ h => h) (Or.inl ⟨by rfl, ?_⟩) (by exact hHeld) ?_
              rotate_left
              · intro w' hSw
                obtain ⟨_, z1, z2, z3, z4⟩ := hSw
                go_simp
                try (with_reducible rfl)
              try simp only [Act.put, List.setIfInBounds_toArray, List.set_cons_zero, List.set_cons_succ]
              refine wpAnyT_takeD (i := 2) (d := some 137) (v := ?_) hO rfl rfl (by kernel_rfl) (fun _ _ _ h => h) (Or.inl ⟨by rfl, ?_⟩) (by exact hHeld) ?_
              rotate_left
              · intro w' hSw
                obtain ⟨_, z1, z2, z3, z4⟩ := hSw
                go_simp
                try (with_reducible rfl)
              try simp only [Act.put, List.setIfInBounds_toArray, List.set_cons_zero, List.set_cons_succ]
              refine wpAnyT_takeD (i := 3) (d := some 138) (v := ?_) hO rfl rfl (by kernel_rfl) (fun _ _ _ h => h) (Or.inl ⟨by rfl, ?_⟩) (by exact hHeld) ?_
              rotate_left
              · intro w' hSw
                obtain ⟨_, z1, z2, z3, z4⟩ := hSw
                go_simp
                try (with_reducible rfl)
              try simp only [Act.put, List.setIfInBounds_toArray, List.set_cons_zero, List.set_cons_succ]
              clear hHeld
              refine wpAnyT_one (i := 4) rfl (by kernel_rfl) (by rfl) (fun K hK => ?_)
              go_simp
              refine (cut_calls (H8.out.2.1.ext0 (Ext.refl Nope _).drew) (small_u64 hW2 HX.out.2.2.2) r hi.out (by rw [HX.out.2.1]; omega)).mono ?_
              rintro e w9 ⟨u9, rfl, r9, x9⟩
              have y9 : Ext (Foot b rv) w8 w9 := (Ext.refl (Foot b rv) w8).drew.trans x9 (fun _ _ z => False.elim z)
              have H9 := toHid (show _ ∧ _ ∧ _ from ⟨(H8.out.1.ext (Ext.refl Nope _).drew (fun _ _ z => z)).ext x9 (fun _ _ z => z), r9, y9⟩)
              clear r9 x9
              try go_simp
              refine hK.out _ _ ⟨y9, SK.out _ y9⟩ (fun hHeld => ?_)
              clear hK K y9
              try simp only [Act.put, List.setIfInBounds_toArray, List.set_cons_zero, List.set_cons_succ]
              clear hHeld
              refine wpAnyT_one (i := 5) rfl (by kernel_rfl) (by rfl) (fun K hK => ?_)
              go_simp
              refine (write_calls (c := r) H9.out.1 HKK.out.2.1 (RowsAt.reads H9.out.2.1) (fun g hg z => by have h1 : w8.heap.size ≤ g := (World.ownsRow.lt H9.out.2.1 g hg).1; have h2 := (H8.out.1.foot g z).2; omega) (hF.out.cut_u64 hW2 HK.out.2.2.2.1.len.symm) hi.out (by have := hF.out.cut_len hW2 HK.out.2.2.2.1.len.symm (by rw [hrl.out]; exact hH2); omega)).mono ?_
              rintro e w10 ⟨rfl, p10, x10⟩
              rw [HWR.out] at p10
              rw [HWR.out]
              have y10 : Ext (Foot b rv) w8 w10 := H9.out.2.2.trans x10 (fun _ _ z => z)
              have H10 := toHid (show _ ∧ _ from ⟨p10, y10⟩)
              clear p10 x10
              try go_simp
              refine hK.out _ _ ⟨y10, SK.out _ y10⟩ (fun hHeld => ?_)
              clear hK K y10
              try simp only [Act.put, List.setIfInBounds_toArray, List.set_cons_zero, List.set_cons_succ]
              clear hHeld
              refine wpAnyT_done (by kernel_rfl) ⟨by kernel_rfl, ?_⟩
              simp only [List.drop_succ_cons, List.drop_zero]
              go_wp2
              go_roundw
              case rel => exact ⟨t2 + 1, by go_num, by omega, H10.out.1, HOK.out, (HKK.out.2.2.trans H8.out.2.2 (fun _ _ z => False.elim z)).trans H10.out.2 (fun _ _ z => z)⟩
              case measure => simp [intOf]; omega
            · have s6 : decide ((t2 : Int) < (m2 : Int)) = false := by simp; omega
              have s7 : decide (t2 < m2) = false := by simp; omega
              have hkk2 : t2 = m2 := by omega
              have hpan : Hid (PanAt wp w3.heap.size b rv ⟨W, ys, false, -1, many + t2⟩) := by
                have h := HKK.out.1
                rw [show plan2.take t2 = plan2 by rw [hkk2, ← HM2.out]; exact List.take_length, fill_plan hW2 HP2.out.1 HK.out.2.2.2.1.len HSM.out HX.out.2.2.2] at h
                exact h
              clear hkk2
              go_wp2_with fail
              refine (pixels_calls hpan.out (by simp only; rw [HX.out.2.1]; exact hH2)).mono ?_
              rintro e w20 ⟨u20, rfl, r20, x20⟩
              have H20 := toHid (show _ ∧ _ ∧ _ from ⟨RowsAt.reads r20, HRE2.out.2.ext0 x20, ext0 HEW2.out x20⟩)
              clear r20 x20
              go_wp2_with fail
              refine (same_calls H20.out.1 H20.out.2.1).mono ?_
              rintro e w21 ⟨rfl, x21⟩
              have HE21 := toHid (show Ext Nope w w21 from ext0 H20.out.2.2 x21)
              rw [decide_eq_true rfl]
              clear x21
              go_wp2
              go_ret
              exact ⟨rfl, HE21.out⟩
end Go.Proofs.YtmmcadbkmfjcbaaDoor
