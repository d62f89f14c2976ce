/-
  PanelCovers: the walk.
-/
import Derived.Test.YtmmcadbkmfjcbaaDoorK6
import Derived.Test.YtmmcadbkmfjcbaaDoorP9
namespace Go.Proofs.YtmmcadbkmfjcbaaDoor
open Go.RowKit
attribute [local go_sem] alloc_drewN setCell_drewN

set_option maxRecDepth 100000 in
set_option maxHeartbeats 8000000 in
/-- abugidalaw33.PanelCovers -/
theorem covers_calls {w : World} {v1 v2 : Value} {xs0 ys0 : List Nat} (ca cb cm : Int) (hT : Tab w) (ha : 0 ≤ ca ∧ ca ≤ 255) (hb : 0 ≤ cb ∧ cb ≤ 255) (hm : 0 ≤ cm ∧ cm ≤ 255) (hr1 : Reads w v1 xs0) (hu1 : U64 xs0) (hr2 : Reads w v2 ys0) (hu2 : U64 ys0) :
    Calls Tryd.prog 8 #[.agg #[.int .u8 ca, .int .u8 cb, v1, v2, .int .u8 cm]] w fun e w' => e = .returned (.bool true) ∧ Ext Nope w w' := by
  have HR := toHid (show _ ∧ _ ∧ _ ∧ _ ∧ _ from ⟨hr1, hu1, hr2, hu2, hT⟩)
  obtain ⟨av1, cap1, hv1, _⟩ := hr1
  obtain ⟨av2, cap2, hv2, _⟩ := hr2
  obtain ⟨l1, HL1⟩ : ∃ l, Hid (xs0.length = l) := ⟨_, rfl⟩
  obtain ⟨l2, HL2⟩ : ∃ l, Hid (ys0.length = l) := ⟨_, rfl⟩
  rw [HL1.out] at hv1
  rw [HL2.out] at hv2
  subst hv1 hv2
  obtain ⟨_, hW1, hW2⟩ := sizeW_eq ha
  obtain ⟨_, hH1, hH2⟩ := sizeW_eq hb
  have HS := toHid (fun W' => sizes_calls ca cb cm (.slice av1 l1 cap1) (.slice av2 l2 cap2) W' ha hb)
  have HRW := toHid (fun W' (e : Ext Nope w W') => rows_calls ca cb cm W' ha hb (HR.out.1.ext0 e) hu1 (HR.out.2.2.1.ext0 e) hu2)
  generalize sizeW ca = W at *
  generalize sizeW cb = H at *
  have HX := toHid (show _ ∧ _ ∧ _ ∧ _ from ⟨made_length xs0 W H, made_length ys0 W H, made_small xs0 W H, made_small ys0 W H⟩)
  obtain ⟨xs, hxs⟩ : ∃ xs, Hid (madeA xs0 W H = xs) := ⟨_, rfl⟩
  obtain ⟨ys, hys⟩ : ∃ ys, Hid (madeA ys0 W H = ys) := ⟨_, rfl⟩
  rw [hxs.out, hys.out] at HX
  obtain ⟨M, hM⟩ : ∃ M : Nat, 1 + cm % 9 = (M : Int) := ⟨(1 + cm % 9).toNat, by omega⟩
  have hM1 : 1 ≤ M ∧ M ≤ 9 := by omega
  have t0 : cm.tmod 9 = (M : Int) - 1 := by rw [Int.tmod_eq_emod_of_nonneg hm.1]; omega
  have t2 : IntKind.i64.wrap (1 + ((M : Int) - 1)) = (M : Int) := by rw [show 1 + ((M : Int) - 1) = (M : Int) by omega]; exact IntWalk.i64_in _ (by omega)
  have p0 : IntKind.i64.wrap cm = cm := IntWalk.i64_in _ (by omega)
  have HTT := toHid (show _ ∧ _ ∧ _ from ⟨t0, t2, p0⟩)
  have HP := toHid (planA_of hW1 hW2 (HX.out.1.trans HX.out.2.1.symm) (by rw [HX.out.1]; exact hH2) hM1.1)
  clear hT hM t0 t2 p0 hu1 hu2
  go_enter Tryd.func8, Tryd.ntmps8
  go_wp2_with fail
  have e0 : Ext Nope w (w.alloc (.cells #[.int .u8 ca, .int .u8 cb, .slice av1 l1 cap1, .slice av2 l2 cap2, .int .u8 cm] 53)) := (Ext.refl _ _).alloc _
  refine (sanity_calls _ (HR.out.2.2.2.2.ext0 e0)).mono ?_
  rintro e w1 ⟨rfl, x1⟩
  have k0 := (x1.block w.heap.size (by simp) (fun z => z)).trans (heap_alloc_new w (.cells #[.int .u8 ca, .int .u8 cb, .slice av1 l1 cap1, .slice av2 l2 cap2, .int .u8 cm] 53))
  have c0 := cell_of_blk k0 0
  have c1 := cell_of_blk k0 1
  have c2 := cell_of_blk k0 2
  have c3 := cell_of_blk k0 3
  have c4 := cell_of_blk k0 4
  have HE1 := toHid (show _ ∧ _ from ⟨ext0 e0 x1, k0⟩)
  clear e0 x1 k0
  go_wp2_with fail
  refine (HS.out w1).mono ?_
  rintro e w2 ⟨rfl, x2⟩
  have k0 := (x2.block w.heap.size (lt_of_heap HE1.out.2) (fun z => z)).trans HE1.out.2
  clear c0 c1 c2 c3 c4
  have c0 := cell_of_blk k0 0
  have c1 := cell_of_blk k0 1
  have c2 := cell_of_blk k0 2
  have c3 := cell_of_blk k0 3
  have c4 := cell_of_blk k0 4
  have HE2 := toHid (show _ ∧ _ from ⟨ext0 HE1.out.1 x2, k0⟩)
  clear x2 k0 HE1 HS
  go_wp2_with fail
  refine (HRW.out _ HE2.out.1).mono ?_
  rintro e w3 ⟨u1, u2, rfl, r1, r2, x3⟩
  rw [hxs.out] at r1
  rw [hys.out] at r2
  have k0 := (x3.block w.heap.size (lt_of_heap HE2.out.2) (fun z => z)).trans HE2.out.2
  clear c0 c1 c2 c3 c4
  have c4 := cell_of_blk k0 4
  have HE3 := toHid (show _ ∧ _ ∧ _ from ⟨ext0 HE2.out.1 x3, r1, r2⟩)
  clear x3 k0 HE2 HRW r1 r2
  obtain ⟨t0, t2, p0⟩ := HTT.out
  have HLE : Hid (xs.length = ys.length) := HX.out.1.trans HX.out.2.1.symm
  have HL64 : Hid (xs.length ≤ 64) := by unfold Hid; rw [HX.out.1]; exact hH2
  go_wp2_with fail
  clear t0 t2 p0 c4
  refine (plan_calls W M (RowsAt.reads HE3.out.2.1) (RowsAt.reads HE3.out.2.2) (HR.out.2.2.2.2.ext0 HE3.out.1) (small_u64 hW2 HX.out.2.2.1) (small_u64 hW2 HX.out.2.2.2)).mono ?_
  rintro e w5 ⟨pv, rfl, r5, x5⟩
  have HSH := toHid (plan_sharp hW1 hW2 HLE.out HL64.out hM1.1)
  have HE5 := toHid (show _ ∧ _ ∧ _ ∧ _ from ⟨own_ext HE3.out.2.1 x5 (fun _ _ z => z), own_ext HE3.out.2.2 x5 (fun _ _ z => z), ext0 HE3.out.1 x5, r5⟩)
  clear x5 HE3
  generalize planA W M xs ys = plan at *
  obtain ⟨m, HM⟩ : ∃ m, Hid (plan.length = m) := ⟨_, rfl⟩
  obtain ⟨pa, pcap, hpv, hpc, hpc2, _⟩ := own_gen r5
  rw [HM.out] at hpv hpc
  subst hpv
  have hm9 : m ≤ M := by have := HP.out.2; rw [HM.out] at this; exact this
  obtain ⟨oa, oc, hvo, _, _, hgo⟩ := own_gen HE5.out.1
  rw [HX.out.1] at hvo hgo
  obtain ⟨og, rfl⟩ := hgo (by omega)
  subst hvo
  obtain ⟨ya, yc, hvy, _, _, hgy⟩ := own_gen HE5.out.2.1
  rw [HX.out.2.1] at hvy hgy
  obtain ⟨yg, rfl⟩ := hgy (by omega)
  subst hvy
  clear r5
  have hmk := fun W' => made_all W' H (by omega)
  go_wp2_with fail
  have e6 : Ext Nope w5 (w5.alloc (.cells (madeCells #[.int .u64 0] H) 63)) := (Ext.refl _ _).alloc _
  have H6 := toHid (show _ ∧ _ ∧ _ ∧ _ ∧ _ from ⟨own_ext HE5.out.1 e6 (fun _ _ z => z), own_ext HE5.out.2.1 e6 (fun _ _ z => z), own_ext HE5.out.2.2.2 e6 (fun _ _ z => z), made_rows w5 H (by omega), ext0 HE5.out.2.2.1 e6⟩)
  have HOG : Hid (og < w5.heap.size ∧ yg < w5.heap.size) := ⟨(World.ownsRow.lt HE5.out.1 og (by simp [Value.ownBlock])).2, (World.ownsRow.lt HE5.out.2.1 yg (by simp [Value.ownBlock])).2⟩
  have HPB : Hid (∀ g, (Value.slice pa m pcap).ownBlock = some g → g < w5.heap.size) := fun g hg => (World.ownsRow.lt HE5.out.2.2.2 g hg).2
  have HWS : Hid (w.heap.size ≤ w5.heap.size) := HE5.out.2.2.1.size
  clear e6 HE5 hmk
  generalize w5.alloc (.cells (madeCells #[.int .u64 0] H) 63) = w6 at *
  generalize w5.heap.size = G at *
  go_loopw [10] (fun i wr => ∃ (t : Nat) (rest : List Nat), i = .int .i64 t ∧ t ≤ H ∧ RowsAt wr G (.slice (some ⟨G, 0, none⟩) H H) rest ∧ rest.length = H ∧ (∀ j, j < t → rest.getD j 0 = xs.getD j 0 ^^^ ys.getD j 0) ∧ Ext (fun k => k = G) w6 wr) (fun i _ => H - (intOf i).toNat)
  case atStart => exact ⟨0, _, rfl, by omega, H6.out.2.2.2.1, List.length_replicate, fun j hj => absurd hj (by omega), Ext.refl _ _⟩
  case round =>
    obtain ⟨t, rest, rfl, ht, hR, hRl, hRx, hE⟩ := hrel
    rename World => wo
    have HK := toHid (show _ ∧ _ ∧ _ ∧ _ from ⟨hR, hRl, hRx, hE⟩)
    have hng : ∀ (a n c : Nat), a < G → ∀ g, (Value.slice (some ⟨a, 0, none⟩) n c).ownBlock = some g → ¬ g = G := fun a n c ha g hg z => by
      have h : a = g := by simpa [Value.ownBlock] using hg
      omega
    have HQ := toHid (show _ ∧ _ ∧ _ ∧ _ from ⟨own_ext H6.out.1 hE (hng _ _ _ HOG.out.1), own_ext H6.out.2.1 hE (hng _ _ _ HOG.out.2), own_ext H6.out.2.2.1 hE (fun g hg z => absurd (HPB.out g hg) (by rw [show g = G from z]; omega)), H6.out.2.2.2.2.trans hE (fun i hi z => absurd (show i = G from z) (by have := HWS.out; omega))⟩)
    clear hng
    clear hR hRl hRx hE
    by_cases htn : t < H
    · obtain ⟨x, hx⟩ := some_at (xs := xs) (k := t) (n := H) htn HX.out.1
      obtain ⟨y, hy⟩ := some_at (xs := ys) (k := t) (n := H) htn HX.out.2.1
      have d1 : wo.cell? ⟨og, t, none⟩ = some (.int .u64 (x : Int)) := RowsAt.cell HQ.out.1 hx
      have d2 : wo.cell? ⟨yg, t, none⟩ = some (.int .u64 (y : Int)) := RowsAt.cell HQ.out.2.1 hy
      obtain ⟨z, hz⟩ := some_at (xs := rest) (k := t) (n := H) htn HK.out.2.1
      have d3 : wo.cell? ⟨G, t, none⟩ = some (.int .u64 (z : Int)) := RowsAt.cell HK.out.1 hz
      have f3 : wo.frozen? ⟨G, t, none⟩ = false := RowsAt.free HK.out.1 t
      have hx6 : x < 2 ^ 64 := small_u64 hW2 HX.out.2.2.1 x (List.mem_of_getElem? hx)
      have hy6 : y < 2 ^ 64 := small_u64 hW2 HX.out.2.2.2 y (List.mem_of_getElem? hy)
      have s4 : bits .xor .u64 (x : Int) (y : Int) = ((x ^^^ y : Nat) : Int) := bits_xor_u64_nat x y hx6 hy6
      have s1 : (0 : Int) ≤ (t : Int) := by omega
      have s2 : (t : Int) < (H : Int) := by omega
      have HXY := toHid (show _ ∧ _ from ⟨getD_of hx, getD_of hy⟩)
      clear hx hy hz hx6 hy6
      go_upto_region 9 with fail
      go_still_tail 11, (by kernel_rfl)
      change wpList _ _ _ _ _ wo.drew
      have d1' : wo.drew.cell? ⟨og, t, none⟩ = some (.int .u64 (x : Int)) := d1
      have d2' : wo.drew.cell? ⟨yg, t, none⟩ = some (.int .u64 (y : Int)) := d2
      have d3' : wo.drew.cell? ⟨G, t, none⟩ = some (.int .u64 (z : Int)) := d3
      have f3' : wo.drew.frozen? ⟨G, t, none⟩ = false := f3
      clear d1 d2 d3 f3
      go_wp2
      go_roundw
      case rel =>
        refine ⟨t + 1, rest.set t (x ^^^ y), by go_num, by omega, own_ext (RowsAt.set HK.out.1 HK.out.2.1 t htn (x ^^^ y)) (Ext.refl Nope _).drew (fun _ _ z => z), by rw [List.length_set, HK.out.2.1], fun j hj => ?_, (Ext.setCell (S := fun k => k = G) HK.out.2.2.2 G t (fun _ => rfl) _).drew⟩
        by_cases hjt : j = t
        · rw [hjt, HXY.out.1, HXY.out.2, List.getD_eq_getElem?_getD, List.getElem?_set_self (by rw [HK.out.2.1]; exact htn)]; rfl
        · rw [← HK.out.2.2.1 j (by omega), List.getD_eq_getElem?_getD, List.getD_eq_getElem?_getD, List.getElem?_set_ne (fun h => hjt h.symm)]
      case measure => simp [intOf]; omega
    · have s2 : decide ((t : Int) < (H : Int)) = false := by simp; omega
      have s3 : decide (t < H) = false := by simp; omega
      have HRS : Hid (Rest xs ys rest (fun _ _ => False)) := Rest.start (HK.out.2.1.trans HX.out.1.symm) (fun j hj => HK.out.2.2.1 j (by rw [HX.out.1] at hj; omega))
      have HK6 := toHid (show _ ∧ _ ∧ _ ∧ _ ∧ _ from ⟨HQ.out.2.2.1, HQ.out.2.2.2, HK.out.1, HK.out.2.1, HRS.out⟩)
      clear HQ HK HRS
      go_wp2_with fail
      go_loopw [11, 58] (fun bv i wr => ∃ (k : Nat) (B : Int) (rest : List Nat), i = .int .i64 k ∧ bv = .int .i64 B ∧ k ≤ m ∧ (∀ r ∈ plan.drop k, B ≤ r.y) ∧ RowsAt wr G (.slice (some ⟨G, 0, none⟩) H H) rest ∧ Rest xs ys rest (fun j i => ∃ r ∈ plan.take k, inR r j i) ∧ Ext (fun k => k = G) wo wr) (fun _ i _ => m - (intOf i).toNat)
      case atStart => exact ⟨0, 0, rest, rfl, rfl, by omega, fun r hr => (HP.out.1.good r (by simpa using hr)).ok.2.2.2.1, HK6.out.2.2.1, HK6.out.2.2.2.2.eqv (fun j i _ => by simp), Ext.refl _ _⟩
      case round =>
        obtain ⟨k, B, rest', rfl, rfl, hk, hB, hR, hRS, hE⟩ := hrel
        rename World => wp
        have HV := toHid (show _ ∧ _ ∧ _ ∧ _ from ⟨hB, hR, hRS, hE⟩)
        have HVP := toHid (show _ ∧ _ from ⟨own_ext HK6.out.1 hE (fun g hg z => absurd (HPB.out g hg) (by rw [show g = G from z]; omega)), HK6.out.2.1.trans hE (fun i hi z => absurd (show i = G from z) (by have := HWS.out; omega))⟩)
        clear hB hR hRS hE
        by_cases hkm : k < m
        · obtain ⟨pre, r, post, e1, e2, e3, e4⟩ := take_split hkm HM.out
          obtain ⟨g, hg⟩ := RectsAt.at HVP.out.1 HM.out (by omega)
          subst hg
          have hF : Hid (Fits W xs.length r) := HP.out.1.fits r (by rw [e1]; simp)
          have hSH : Hid (Sharp xs ys r) := HSH.out.2 r (by rw [e1]; simp)
          obtain ⟨d0, d1, d2, d3⟩ := rect_cells (rs := plan) HVP.out.1 e1
          rw [e2] at d0 d1 d2 d3
          have hi : Hid (r.i64) := hF.out.i64 HL64.out
          have hBr : Hid (B ≤ r.y) := HV.out.1 r (by rw [e1, ← e2]; simp)
          have s1 : (0 : Int) ≤ (k : Int) := by omega
          have s2 : (k : Int) < (m : Int) := by omega
          go_wp2_with fail
          clear s1 s2 d0 d1 d2 d3
          have KR := heap_alloc_new wp (.cells #[.int .i64 r.x, .int .i64 r.y, .int .i64 r.w, .int .i64 r.h] 31)
          have x8 : Ext Nope wp (wp.alloc (.cells #[.int .i64 r.x, .int .i64 r.y, .int .i64 r.w, .int .i64 r.h] 31)) := (Ext.refl _ _).alloc _
          have hGw : Hid (G < wp.heap.size) := (World.ownsRow.lt HV.out.2.1 G (by simp [Value.ownBlock])).2
          generalize wp.alloc (.cells #[.int .i64 r.x, .int .i64 r.y, .int .i64 r.w, .int .i64 r.h] 31) = w8 at *
          refine (Within_calls r W H _ hi.out (by omega) (by omega) (by omega) (by omega)).mono ?_
          rintro e w9 ⟨rfl, x9⟩
          rw [show inB r W H = true by have h := hF.out.inB; rw [HX.out.1] at h; exact h]
          have K9 := (x9.block _ (lt_of_heap KR) (fun z => z)).trans KR
          have y9 := ext0 x8 x9
          have H9 := toHid (show _ ∧ _ ∧ _ from ⟨own_ext HV.out.2.1 y9 (fun _ _ z => z), y9, K9⟩)
          have d0 := cell_of_blk K9 0
          have d1 := cell_of_blk K9 1
          have d2 := cell_of_blk K9 2
          have d3 := cell_of_blk K9 3
          have s3 : decide (r.y < B) = false := by have := hBr.out; simp; omega
          have s4 : IntKind.i64.wrap (r.y + r.h) = r.y + r.h := IntWalk.i64_in _ (by have h := hF.out.good.ok; have := HL64.out; unfold okR at h; omega)
          clear KR x8 x9 K9 y9
          go_wp2_with fail
          obtain ⟨X, Y, w', h', hre, n1, n2, n3, n4⟩ := hF.out.nat
          have rx : r.x = (X : Int) := by rw [hre]
          have ry : r.y = (Y : Int) := by rw [hre]
          have rw' : r.w = (w' : Int) := by rw [hre]
          have rh : r.h = (h' : Int) := by rw [hre]
          have HRR := toHid (show _ ∧ _ ∧ _ ∧ _ from ⟨rx, ry, rw', rh⟩)
          rw [rx] at d0
          rw [ry] at d1
          rw [rw'] at d2
          rw [rh] at d3
          rw [ry, rh] at s4
          have HD := toHid (show _ ∧ _ ∧ _ ∧ _ from ⟨d0, d1, d2, d3⟩)
          clear rx ry rw' rh hre s3
          rw [HX.out.1] at n4
          rw [HRR.out.2.1, HRR.out.2.2.2]
          go_loopw [14, 15] (fun av i wr => ∃ (kk all : Nat) (rest : List Nat), i = .int .i64 kk ∧ av = .int .u64 (all : Int) ∧ Y ≤ kk ∧ kk ≤ Y + h' ∧ RowsAt wr G (.slice (some ⟨G, 0, none⟩) H H) rest ∧ Rest xs ys rest (fun j i => (∃ r ∈ plan.take k, inR r j i) ∨ (inR r j i ∧ j < kk)) ∧ (∀ i, all.testBit i = true ↔ i < w' ∧ ∃ j, Y ≤ j ∧ j < kk ∧ Differ xs ys j (X + i)) ∧ Ext (fun k => k = G) w9 wr) (fun _ i _ => (Y + h') - (intOf i).toNat)
          case atStart =>
            refine ⟨Y, 0, rest', rfl, rfl, by omega, by omega, H9.out.1, HV.out.2.2.1.eqv (fun j i _ => ⟨.inl, fun h => h.elim id (fun h => ?_)⟩), fun i => ⟨fun h => by simp at h, fun ⟨_, j, h1, h2, _⟩ => by omega⟩, Ext.refl _ _⟩
            have := h.1.1
            rw [HRR.out.2.1] at this
            omega
          case round =>
            obtain ⟨kk, all, rest2, rfl, rfl, hk1, hk2, hR, hRS, hal, hE⟩ := hrel
            rename World => wv
            have k9 := (hE.block _ (lt_of_heap H9.out.2.2) (fun z => by have z : wp.heap.size = G := z; have := hGw.out; omega)).trans H9.out.2.2
            have d0 : wv.cell? ⟨wp.heap.size, 0, none⟩ = some (.int .i64 (X : Int)) := by rw [← HRR.out.1]; exact cell_of_blk k9 0
            have d1 : wv.cell? ⟨wp.heap.size, 1, none⟩ = some (.int .i64 (Y : Int)) := by rw [← HRR.out.2.1]; exact cell_of_blk k9 1
            have d2 : wv.cell? ⟨wp.heap.size, 2, none⟩ = some (.int .i64 (w' : Int)) := by rw [← HRR.out.2.2.1]; exact cell_of_blk k9 2
            have d3 : wv.cell? ⟨wp.heap.size, 3, none⟩ = some (.int .i64 (h' : Int)) := by rw [← HRR.out.2.2.2]; exact cell_of_blk k9 3
            have HV2 := toHid (show _ ∧ _ ∧ _ ∧ _ ∧ _ from ⟨hR, hRS, hal, hE, k9⟩)
            clear hR hRS hal hE k9
            by_cases hkn : kk < Y + h'
            · have s1 : (kk : Int) < (Y : Int) + (h' : Int) := by omega
              go_wp2_with fail
              refine (rect_calls X kk w' 1 _).mono ?_
              rintro e w10 ⟨rfl, x10⟩
              have hsm := HV2.out.2.1.small HX.out.2.2.1 HX.out.2.2.2
              obtain ⟨z, hz⟩ := some_at (xs := rest2) (k := kk) (n := H) (by omega) (HV2.out.2.1.len.trans HX.out.1)
              have r10 := (RowsAt.reads HV2.out.1).ext0 x10
              have HZ := toHid (show _ ∧ _ from ⟨hz, hsm⟩)
              have H10 := toHid (show _ ∧ _ from ⟨r10, x10⟩)
              clear r10 x10 hz hsm
              go_wp2_with fail
              refine (rcut_calls H10.out.1 (small_u64 hW2 HZ.out.2) ⟨X, kk, w', ((1 : Nat) : Int)⟩ (by unfold R.i64; simp only; omega) (by rw [HV2.out.2.1.len, HX.out.1]; omega)).mono ?_
              rintro e w11 ⟨u11, rfl, r11, x11⟩
              rw [cutR_row HZ.out.1 n1 (by omega)] at r11
              have hKX : Hid (kk < xs.length) := by have h : kk < H := by omega
                                                    rw [← HX.out.1] at h; exact h
              have HAP := toHid (apart_mid (by rw [← e1]; exact HSH.out.1))
              have HS := toHid (seen_row HRR.out HAP.out.1 hk1 hKX.out HZ.out.1 (by rw [← e3]; exact HV2.out.2.1))
              have hz6 : Hid (z < 18446744073709551616) := small_u64 hW2 HZ.out.2 z (List.mem_of_getElem? HZ.out.1)
              have HCL := toHid (clear_bits (w := w') hz6.out (show X + w' ≤ 64 by omega))
              have HCB := toHid (clear_bit X w' z)
              have HCT := toHid (cut_lt X w' z)
              generalize z ^^^ (z &&& (cutX X w' z * 2 ^ X)) = z2 at *
              generalize cutX X w' z = c at *
              have HSE := toHid (seen_ends HRR.out n2 hSH.out HS.out)
              have HAL := toHid (all_next HV2.out.2.2.1 hk1 HS.out)
              have h64 : Hid (all < 2 ^ 64 ∧ c < 2 ^ 64) := ⟨lt_of_bits2 fun i hi => by
                cases hb : all.testBit i with
                | false => rfl
                | true => have := ((HV2.out.2.2.1 i).1 hb).1; omega, Nat.lt_of_lt_of_le HCT.out (Nat.pow_le_pow_right (by omega) (by omega))⟩
              have HOR := toHid (bits_or_u64_nat all c h64.out.1 h64.out.2)
              generalize all ||| c = all2 at *
              obtain ⟨ua, uc, huv, _, _, hug⟩ := own_gen r11
              obtain ⟨ug, rfl⟩ := hug (by simp)
              have huv2 : u11 = .slice (some ⟨ug, 0, none⟩) 1 uc := huv
              subst huv2
              have y11 := ext0 H10.out.2 x11
              have k11 := (y11.block _ (lt_of_heap HV2.out.2.2.2.2) (fun z => z)).trans HV2.out.2.2.2.2
              have H11 := toHid (show _ ∧ _ ∧ _ from ⟨own_ext HV2.out.1 y11 (fun _ _ z => z), y11, k11⟩)
              have c0 : w11.cell? ⟨ug, 0, none⟩ = some (.int .u64 (c : Int)) := RowsAt.cell r11 rfl
              clear x11 y11 k11 r11 huv hug
              have d0 := H11.out.2.2
              clear d0
              have d0 : w11.cell? ⟨wp.heap.size, 0, none⟩ = some (.int .i64 (X : Int)) := by rw [← HRR.out.1]; exact cell_of_blk H11.out.2.2 0
              have d1 : w11.cell? ⟨wp.heap.size, 1, none⟩ = some (.int .i64 (Y : Int)) := by rw [← HRR.out.2.1]; exact cell_of_blk H11.out.2.2 1
              have d3 : w11.cell? ⟨wp.heap.size, 3, none⟩ = some (.int .i64 (h' : Int)) := by rw [← HRR.out.2.2.2]; exact cell_of_blk H11.out.2.2 3
              have d4 : w11.cell? ⟨G, kk, none⟩ = some (.int .u64 (z : Int)) := RowsAt.cell H11.out.1 HZ.out.1
              have f4 : w11.frozen? ⟨G, kk, none⟩ = false := RowsAt.free H11.out.1 kk
              have s5 : bits .or .u64 (all : Int) (c : Int) = (all2 : Int) := HOR.out
              have s6 : bits .andNot .u64 (z : Int) (IntKind.u64.wrap ((c : Int) * 2 ^ X)) = (z2 : Int) := HCL.out
              have s7 : (0 : Int) ≤ (kk : Int) := by omega
              have s8 : (kk : Int) < (H : Int) := by omega
              by_cases hc0 : c = 0
              · have q0 : ((c : Int) == 0) = true := by rw [hc0]; rfl
                obtain ⟨p1, p2⟩ := HSE.out hc0
                have q1 : ((kk : Int) == (Y : Int)) = false := by simp; omega
                have q2 : ((kk : Int) == (Y : Int) + (h' : Int) - 1) = false := by simp; omega
                have s5' : bits .or .u64 (all : Int) 0 = (all2 : Int) := by have h := HOR.out; rw [hc0] at h; exact h
                have s6' : bits .andNot .u64 (z : Int) 0 = (z2 : Int) := by have h := HCL.out; rw [hc0, show (((0 : Nat) : Int) * 2 ^ X) = 0 by simp, show IntKind.u64.wrap 0 = 0 from rfl] at h; exact h
                have hc0 := toHid hc0
                clear p1 p2
                go_upto_region 25 with fail
                go_still_tail 12, (by kernel_rfl)
                change wpList _ _ _ _ _ w11.drew
                have d4' : w11.drew.cell? ⟨G, kk, none⟩ = some (.int .u64 (z : Int)) := d4
                have f4' : w11.drew.frozen? ⟨G, kk, none⟩ = false := f4
                clear d4 f4
                go_wp2
                go_roundw
                case rel =>
                  refine ⟨kk + 1, all2, rest2.set kk z2, by go_num, rfl, by omega, by omega, own_ext (RowsAt.set H11.out.1 (HV2.out.2.1.len.trans HX.out.1) kk (by omega) z2) (Ext.refl Nope _).drew (fun _ _ z => z), (HV2.out.2.1.row hKX.out (fun i => by rw [getD_of HZ.out.1]; exact HCB.out i)).eqv (fun j i _ => ?_), HAL.out, (Ext.setCell (S := fun k => k = G) (HV2.out.2.2.2.1.trans H11.out.2.1 (fun _ _ z => z.elim)) G kk (fun _ => rfl) _).drew⟩
                  obtain ⟨q1, q2, q3, q4⟩ := HRR.out
                  unfold inR
                  constructor
                  · rintro ((h | ⟨h1, h2⟩) | ⟨h0, h1, h2⟩)
                    · exact .inl h
                    · exact .inr ⟨h1, by omega⟩
                    · exact .inr ⟨⟨by omega, by omega, by omega, by omega⟩, by omega⟩
                  · rintro (h | ⟨h1, h2⟩)
                    · exact .inl (.inl h)
                    · by_cases h3 : j < kk
                      · exact .inl (.inr ⟨h1, h3⟩)
                      · exact .inr ⟨by omega, by omega, by omega⟩
                case measure => simp [intOf]; omega
              · have q0 : ((c : Int) == 0) = false := by simp; omega
                go_upto_region 25 with fail
                go_still_tail 12, (by kernel_rfl)
                change wpList _ _ _ _ _ w11.drew
                have d4' : w11.drew.cell? ⟨G, kk, none⟩ = some (.int .u64 (z : Int)) := d4
                have f4' : w11.drew.frozen? ⟨G, kk, none⟩ = false := f4
                clear d4 f4
                go_wp2
                go_roundw
                case rel =>
                  refine ⟨kk + 1, all2, rest2.set kk z2, by go_num, rfl, by omega, by omega, own_ext (RowsAt.set H11.out.1 (HV2.out.2.1.len.trans HX.out.1) kk (by omega) z2) (Ext.refl Nope _).drew (fun _ _ z => z), (HV2.out.2.1.row hKX.out (fun i => by rw [getD_of HZ.out.1]; exact HCB.out i)).eqv (fun j i _ => ?_), HAL.out, (Ext.setCell (S := fun k => k = G) (HV2.out.2.2.2.1.trans H11.out.2.1 (fun _ _ z => z.elim)) G kk (fun _ => rfl) _).drew⟩
                  obtain ⟨q1, q2, q3, q4⟩ := HRR.out
                  unfold inR
                  constructor
                  · rintro ((h | ⟨h1, h2⟩) | ⟨h0, h1, h2⟩)
                    · exact .inl h
                    · exact .inr ⟨h1, by omega⟩
                    · exact .inr ⟨⟨by omega, by omega, by omega, by omega⟩, by omega⟩
                  · rintro (h | ⟨h1, h2⟩)
                    · exact .inl (.inl h)
                    · by_cases h3 : j < kk
                      · exact .inl (.inr ⟨h1, h3⟩)
                      · exact .inr ⟨by omega, by omega, by omega⟩
                case measure => simp [intOf]; omega
            · have s1 : decide ((kk : Int) < (Y : Int) + (h' : Int)) = false := by simp; omega
              have hkY : kk = Y + h' := by omega
              have HSA := seen_all HRR.out n1 (by omega) hkY hSH.out HV2.out.2.2.1
              obtain ⟨b1, b2⟩ := HSA
              have HAP := toHid (apart_mid (by rw [← e1]; exact HSH.out.1))
              have hkY := toHid hkY
              go_wp2_with fail
              refine ⟨⟨k + 1, ((Y : Int) + (h' : Int)), rest2, by go_num, rfl, by omega, fun q hq => ?_, HV2.out.1, HV2.out.2.1.eqv (fun j i _ => ?_), (HV.out.2.2.2.trans H9.out.2.1 (fun _ _ z => z.elim)).trans HV2.out.2.2.2.1 (fun _ _ z => z)⟩, by simp [intOf]; omega⟩
              · have e5 : plan.drop (k + 1) = post := by rw [e1, ← e2]; simp
                rw [e5] at hq
                have := HAP.out.2 q hq
                obtain ⟨q1, q2, q3, q4⟩ := HRR.out
                omega
              · obtain ⟨q1, q2, q3, q4⟩ := HRR.out
                have hkY := hkY.out
                rw [e4, e3]
                constructor
                · rintro (⟨p, hp, hin⟩ | ⟨h1, _⟩)
                  · exact ⟨p, List.mem_append_left _ hp, hin⟩
                  · exact ⟨r, by simp, h1⟩
                · rintro ⟨p, hp, hin⟩
                  rcases List.mem_append.1 hp with h1 | h1
                  · exact .inl ⟨p, h1, hin⟩
                  · have h1 : p = r := by simpa using h1
                    rw [h1] at hin
                    refine .inr ⟨hin, ?_⟩
                    have := hin.2.1
                    omega
        · have s2 : decide ((k : Int) < (m : Int)) = false := by simp; omega
          have s3 : decide (k < m) = false := by simp; omega
          have hkk : k = m := by omega
          have hz : Hid (rest' = List.replicate H 0) := by
            have h := Rest.none HV.out.2.2.1 HX.out.2.2.1 HX.out.2.2.2 (fun j i hj hi hd => by
              obtain ⟨r, hr, hin⟩ := HP.out.1.cov j i hj hi hd
              exact ⟨r, by rw [hkk, ← HM.out, List.take_length]; exact hr, hin⟩)
            rw [HX.out.1] at h
            exact h
          clear hkk
          have hmk := fun W' => made_all W' H (by omega)
          go_wp2_with fail
          refine (same_calls ((RowsAt.reads HV.out.2.1).ext0 ((Ext.refl Nope wp).alloc _)) (RowsAt.reads (made_rows wp H (by omega)))).mono ?_
          rintro e w9 ⟨rfl, x9⟩
          have HE9 : Hid (Ext Nope w w9) := ext0 (ext0 HVP.out.2 ((Ext.refl Nope wp).alloc _)) x9
          rw [decide_eq_true hz.out]
          clear x9 hmk
          go_wp2
          go_ret
          exact ⟨rfl, HE9.out⟩
end Go.Proofs.YtmmcadbkmfjcbaaDoor
