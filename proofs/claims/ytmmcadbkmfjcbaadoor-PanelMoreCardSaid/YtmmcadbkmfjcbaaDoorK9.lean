/-
  PanelMore: the walk.
-/
import Derived.Test.YtmmcadbkmfjcbaaDoorK6
import Derived.Test.YtmmcadbkmfjcbaaDoorP5
namespace Go.Proofs.YtmmcadbkmfjcbaaDoor
open Go.RowKit
attribute [local go_sem] alloc_drewN setCell_drewN

set_option maxRecDepth 100000 in
set_option maxHeartbeats 8000000 in
/-- abugidalaw33.PanelMore -/
theorem more_calls {w : World} {v1 v2 : Value} {xs0 ys0 : List Nat} (ca cb cm q0 q1 : Int) (hT : Tab w) (ha : 0 ≤ ca ∧ ca ≤ 255) (hb : 0 ≤ cb ∧ cb ≤ 255) (hm : 0 ≤ cm ∧ cm ≤ 255) (hr1 : Reads w v1 xs0) (hu1 : U64 xs0) (hr2 : Reads w v2 ys0) (hu2 : U64 ys0) (hq0 : 0 ≤ q0 ∧ q0 ≤ 255) (hq1 : 0 ≤ q1 ∧ q1 ≤ 255) :
    Calls Tryd.prog 9 #[.agg #[.int .u8 ca, .int .u8 cb, v1, v2, .int .u8 cm], .agg #[.int .u8 q0, .int .u8 q1]] w fun e w' => e = .returned (.bool true) ∧ Ext Nope w w' := by
  have HR := toHid (show _ ∧ _ ∧ _ ∧ _ ∧ _ from ⟨hr1, hu1, hr2, hu2, hT⟩)
  obtain ⟨av1, cap1, hv1, _⟩ := hr1
  obtain ⟨av2, cap2, hv2, _⟩ := hr2
  obtain ⟨l1, HL1⟩ : ∃ l, Hid (xs0.length = l) := ⟨_, rfl⟩
  obtain ⟨l2, HL2⟩ : ∃ l, Hid (ys0.length = l) := ⟨_, rfl⟩
  rw [HL1.out] at hv1
  rw [HL2.out] at hv2
  subst hv1 hv2
  obtain ⟨_, hW1, hW2⟩ := sizeW_eq ha
  obtain ⟨_, hH1, hH2⟩ := sizeW_eq hb
  have HS := toHid (fun W' => sizes_calls ca cb cm (.slice av1 l1 cap1) (.slice av2 l2 cap2) W' ha hb)
  have HRW := toHid (fun W' (e : Ext Nope w W') => rows_calls ca cb cm W' ha hb (HR.out.1.ext0 e) hu1 (HR.out.2.2.1.ext0 e) hu2)
  generalize sizeW ca = W at *
  generalize sizeW cb = H at *
  have HX := toHid (show _ ∧ _ ∧ _ ∧ _ from ⟨made_length xs0 W H, made_length ys0 W H, made_small xs0 W H, made_small ys0 W H⟩)
  obtain ⟨xs, hxs⟩ : ∃ xs, Hid (madeA xs0 W H = xs) := ⟨_, rfl⟩
  obtain ⟨ys, hys⟩ : ∃ ys, Hid (madeA ys0 W H = ys) := ⟨_, rfl⟩
  rw [hxs.out, hys.out] at HX
  have HLE : Hid (xs.length = ys.length) := HX.out.1.trans HX.out.2.1.symm
  have HL64 : Hid (xs.length ≤ 64) := by unfold Hid; rw [HX.out.1]; exact hH2
  clear hT hu1 hu2
  go_enter Tryd.func9, Tryd.ntmps9
  go_wp2_with fail
  have e0 : Ext Nope w ((w.alloc (.cells #[.int .u8 ca, .int .u8 cb, .slice av1 l1 cap1, .slice av2 l2 cap2, .int .u8 cm] 53)).alloc (.cells #[.int .u8 q0, .int .u8 q1] 22)) := ((Ext.refl _ _).alloc _).alloc _
  refine (sanity_calls _ (HR.out.2.2.2.2.ext0 e0)).mono ?_
  rintro e w1 ⟨rfl, x1⟩
  have k0 := (x1.block w.heap.size (by simp; omega) (fun z => z)).trans ((heap_alloc_old (w.alloc (.cells #[.int .u8 ca, .int .u8 cb, .slice av1 l1 cap1, .slice av2 l2 cap2, .int .u8 cm] 53)) (.cells #[.int .u8 q0, .int .u8 q1] 22) w.heap.size (by simp)).trans (heap_alloc_new w (.cells #[.int .u8 ca, .int .u8 cb, .slice av1 l1 cap1, .slice av2 l2 cap2, .int .u8 cm] 53)))
  have k1 := (x1.block (w.heap.size + 1) (by simp) (fun z => z)).trans (heap_alloc_at (w.alloc (.cells #[.int .u8 ca, .int .u8 cb, .slice av1 l1 cap1, .slice av2 l2 cap2, .int .u8 cm] 53)) (.cells #[.int .u8 q0, .int .u8 q1] 22) (w.heap.size + 1) (by simp))
  have c0 := cell_of_blk k0 0
  have c1 := cell_of_blk k0 1
  have c2 := cell_of_blk k0 2
  have c3 := cell_of_blk k0 3
  have c4 := cell_of_blk k0 4
  have HE1 := toHid (show _ ∧ _ ∧ _ from ⟨ext0 e0 x1, k0, k1⟩)
  clear e0 x1 k0 k1
  go_wp2_with fail
  refine (HS.out w1).mono ?_
  rintro e w2 ⟨rfl, x2⟩
  have k0 := (x2.block w.heap.size (lt_of_heap HE1.out.2.1) (fun z => z)).trans HE1.out.2.1
  clear c0 c1 c2 c3 c4
  have c0 := cell_of_blk k0 0
  have c1 := cell_of_blk k0 1
  have c2 := cell_of_blk k0 2
  have c3 := cell_of_blk k0 3
  have c4 := cell_of_blk k0 4
  have HE2 := toHid (show _ ∧ _ from ⟨ext0 HE1.out.1 x2, (x2.block _ (lt_of_heap HE1.out.2.2) (fun z => z)).trans HE1.out.2.2⟩)
  clear x2 k0 HE1 HS
  go_wp2_with fail
  refine (HRW.out _ HE2.out.1).mono ?_
  rintro e w3 ⟨u1, u2, rfl, r1, r2, x3⟩
  rw [hxs.out] at r1
  rw [hys.out] at r2
  clear c0 c1 c2 c3 c4
  have HE3 := toHid (show _ ∧ _ ∧ _ ∧ _ from ⟨ext0 HE2.out.1 x3, r1, r2, (x3.block _ (lt_of_heap HE2.out.2) (fun z => z)).trans HE2.out.2⟩)
  clear x3 HE2 HRW r1 r2
  go_wp2_with fail
  go_loopw [10, 11] (fun av i wr => ∃ (m : Nat) (A : Int), i = .int .i64 m ∧ av = .int .i64 A ∧ 1 ≤ m ∧ m ≤ 6 ∧ areaL (planA W m xs ys) ≤ A ∧ Ext Nope w3 wr) (fun _ i _ => 6 - (intOf i).toNat)
  case atStart => exact ⟨1, 1048576, rfl, rfl, by omega, by omega, by have := (plan_area_le (many := 1) hW1 hW2 HLE.out HL64.out (by omega)).2; omega, Ext.refl _ _⟩
  case round =>
    obtain ⟨m, A, rfl, rfl, hm1, hm6, hA, hE⟩ := hrel
    rename World => wo
    have HA := toHid (show _ ∧ _ from ⟨hA, hE⟩)
    have HQ := toHid (show _ ∧ _ ∧ _ from ⟨own_ext HE3.out.2.1 hE (fun _ _ z => z), own_ext HE3.out.2.2.1 hE (fun _ _ z => z), ext0 HE3.out.1 hE⟩)
    clear hA hE
    by_cases hm5 : m ≤ 5
    · have s1 : (m : Int) ≤ 5 := by omega
      go_wp2_with fail
      clear s1
      have HP := toHid (planA_of hW1 hW2 HLE.out HL64.out hm1)
      have HN := toHid (plan_area hW1 hW2 HLE.out HL64.out hm1)
      have HZ := toHid (plan_zero hW1 hW2 HLE.out HL64.out hm1 HX.out.2.2.1 HX.out.2.2.2)
      refine (plan_calls W m (RowsAt.reads HQ.out.1) (RowsAt.reads HQ.out.2.1) (HR.out.2.2.2.2.ext0 HQ.out.2.2) (small_u64 hW2 HX.out.2.2.1) (small_u64 hW2 HX.out.2.2.2)).mono ?_
      rintro e w5 ⟨pv, rfl, r5, x5⟩
      have HE5 := toHid (show _ ∧ _ ∧ _ ∧ _ from ⟨own_ext HQ.out.1 x5 (fun _ _ z => z), own_ext HQ.out.2.1 x5 (fun _ _ z => z), ext0 HA.out.2 x5, r5⟩)
      clear x5
      generalize planA W m xs ys = plan at *
      obtain ⟨n, HNL⟩ : ∃ n, Hid (plan.length = n) := ⟨_, rfl⟩
      obtain ⟨pa, pcap, hpv, hpc, hpc2, _⟩ := own_gen r5
      rw [HNL.out] at hpv hpc
      subst hpv
      have hn5 : n ≤ 5 := by have := HP.out.2; rw [HNL.out] at this; omega
      clear r5
      go_wp2_with fail
      go_loopw [12, 39] (fun sv i wr => ∃ (t : Nat) (S : Int), i = .int .i64 t ∧ sv = .int .i64 S ∧ t ≤ n ∧ S = areaL (plan.take t) ∧ Ext Nope w5 wr) (fun _ i _ => n - (intOf i).toNat)
      case atStart => exact ⟨0, 0, rfl, rfl, by omega, rfl, Ext.refl _ _⟩
      case round =>
        obtain ⟨t, S, rfl, rfl, ht, hS, hE⟩ := hrel
        rename World => wv
        have HV := toHid (show _ ∧ _ ∧ _ from ⟨own_ext HE5.out.2.2.2 hE (fun _ _ z => z), hE, hS⟩)
        clear hE hS
        have hS2 : 0 ≤ S ∧ S ≤ 20480 := by
          have h := area_bound (k := xs.length) (by have := HL64.out; omega) (plan.take t) (fun r hr => HP.out.1.good r (List.mem_of_mem_take hr))
          rw [List.length_take, HNL.out, ← HV.out.2.2] at h
          omega
        by_cases htn : t < n
        · obtain ⟨pre, r, post, e1, e2, e3, e4⟩ := take_split htn HNL.out
          obtain ⟨g, hg⟩ := RectsAt.at HV.out.1 HNL.out (by omega)
          subst hg
          obtain ⟨d0, d1, d2, d3⟩ := rect_cells (rs := plan) HV.out.1 e1
          rw [e2] at d0 d1 d2 d3
          have hG := area_le (HP.out.1.good r (by rw [e1]; simp)) (by have := HL64.out; omega)
          unfold areaR at hG
          have HTK : Hid (areaL (plan.take (t + 1)) = S + r.w * r.h) := by unfold Hid; rw [e4, areaL_append, HV.out.2.2, e3]; simp only [areaL]; omega
          have s1 : (0 : Int) ≤ (t : Int) := by omega
          have s2 : (t : Int) < (n : Int) := by omega
          have s3 : IntKind.i64.wrap (r.w * r.h) = r.w * r.h := IntWalk.i64_in _ (by omega)
          have s4 : IntKind.i64.wrap (S + r.w * r.h) = S + r.w * r.h := IntWalk.i64_in _ (by omega)
          clear e1 e2 e3 e4
          go_wp2_with fail
          go_roundw
          case rel => exact ⟨t + 1, _, by go_num, rfl, by omega, HTK.out.symm, HV.out.2.1.alloc _⟩
          case measure => simp [intOf]; omega
        · have s2 : decide ((t : Int) < (n : Int)) = false := by simp; omega
          have s3 : decide (t < n) = false := by simp; omega
          have HSS : Hid (S = areaL plan) := by unfold Hid; rw [HV.out.2.2, show t = n by omega, ← HNL.out, List.take_length]
          have s4 : decide (A < S) = false := by have := HSS.out; have := HA.out.1; simp; omega
          have HV2 := toHid (show _ ∧ _ ∧ _ from ⟨own_ext HE5.out.1 HV.out.2.1 (fun _ _ z => z), own_ext HE5.out.2.1 HV.out.2.1 (fun _ _ z => z), ext0 HE5.out.2.2.1 HV.out.2.1⟩)
          go_wp2_with fail
          refine (same_calls (RowsAt.reads HV2.out.1) (RowsAt.reads HV2.out.2.1)).mono ?_
          rintro e w6 ⟨rfl, x6⟩
          have HE6 := toHid (show Ext Nope w3 w6 from ext0 HV2.out.2.2 x6)
          have hrel : Hid (∃ (m' : Nat) (A' : Int), Value.int .i64 ((m : Int) + 1) = .int .i64 m' ∧ Value.int .i64 S = .int .i64 A' ∧ 1 ≤ m' ∧ m' ≤ 6 ∧ areaL (planA W m' xs ys) ≤ A' ∧ Ext Nope w3 w6) := ⟨m + 1, S, by go_num, rfl, by omega, by omega, by rw [HSS.out]; exact HN.out, HE6.out⟩
          clear x6
          by_cases hz : S = 0
          · have hxy : xs = ys := HZ.out.1 (by rw [← HSS.out]; exact hz)
            rw [decide_eq_true hxy]
            have s5 : decide (S = 0) = true := decide_eq_true hz
            clear hxy
            go_wp2
            go_roundw
            case rel => have h := hrel.out; rw [hz] at h; exact h
            case measure => simp [intOf]; omega
          · have hxy : ¬ xs = ys := fun h => hz (by rw [HSS.out]; exact HZ.out.2 h)
            rw [decide_eq_false hxy]
            have s5 : decide (S = 0) = false := decide_eq_false hz
            clear hxy
            go_wp2
            go_roundw
            case rel => exact hrel.out
            case measure => simp [intOf]; omega
    · have s1 : decide ((m : Int) ≤ 5) = false := by simp; omega
      have s2 : decide (m ≤ 5) = false := by simp; omega
      go_upto_region 17 with fail
      clear s1 s2
      obtain ⟨i, hi⟩ : ∃ i : Nat, q0 % (W : Int) = (i : Int) := ⟨(q0 % (W : Int)).toNat, by have := Int.emod_nonneg q0 (show (W : Int) ≠ 0 by omega); omega⟩
      obtain ⟨j, hj⟩ : ∃ j : Nat, q1 % (H : Int) = (j : Int) := ⟨(q1 % (H : Int)).toNat, by have := Int.emod_nonneg q1 (show (H : Int) ≠ 0 by omega); omega⟩
      have hiW : i < W := by have := Int.emod_lt_of_pos q0 (show (0 : Int) < (W : Int) by omega); omega
      have hjH : j < H := by have := Int.emod_lt_of_pos q1 (show (0 : Int) < (H : Int) by omega); omega
      have t0 : q0.tmod (W : Int) = (i : Int) := by rw [Int.tmod_eq_emod_of_nonneg hq0.1]; exact hi
      have t1 : q1.tmod (H : Int) = (j : Int) := by rw [Int.tmod_eq_emod_of_nonneg hq1.1]; exact hj
      have t2 : IntKind.i64.wrap (i : Int) = (i : Int) := IntWalk.i64_in _ (by omega)
      have t3 : IntKind.i64.wrap (j : Int) = (j : Int) := IntWalk.i64_in _ (by omega)
      have p0 : IntKind.i64.wrap q0 = q0 := IntWalk.i64_in _ (by omega)
      have p1 : IntKind.i64.wrap q1 = q1 := IntWalk.i64_in _ (by omega)
      have z0 : ¬ (W : Int) = 0 := by omega
      have z1 : ¬ (H : Int) = 0 := by omega
      have z2 : ¬ W = 0 := by omega
      have z3 : ¬ H = 0 := by omega
      have kq := (HA.out.2.block _ (lt_of_heap HE3.out.2.2.2) (fun z => z)).trans HE3.out.2.2.2
      have c0 := cell_of_blk kq 0
      have c1 := cell_of_blk kq 1
      clear hi hj kq
      go_quiet (fail)
      clear t0 t1 t2 t3 p0 p1 z0 z1 z2 z3 c0 c1
      have HQ2 := toHid (show _ ∧ _ ∧ _ from ⟨own_ext HQ.out.1 ((Ext.refl Nope wo).drewN nq) (fun _ _ z => z), own_ext HQ.out.2.1 ((Ext.refl Nope wo).drewN nq) (fun _ _ z => z), HQ.out.2.2.drewN nq⟩)
      generalize wo.drewN nq = wq at *
      have hl5 : xs.length ≤ 100000 := by have := HL64.out; omega
      go_wp2_with (first | (at_builtin; refine wpList_take (by rfl) (fun K hK => ?_); refine wp_joinU (.tmp 73) (.tmp 74) rfl wq.heap.size rfl (heap_alloc_new wq _) _ rfl xs ((RowsAt.reads HQ2.out.1).ext0 ((Ext.refl _ _).alloc _)) hl5 wq.heap.size (Nat.le_refl _) ?_))
      intro v' w6 hr he og oc hv
      rw [HX.out.1] at hv
      subst hv
      refine hK _ _ ?_
      clear hK K
      have H6 := toHid (show _ ∧ _ from ⟨hr, ext0 ((Ext.refl Nope wq).alloc _) he⟩)
      clear hr he
      obtain ⟨x, hx⟩ := some_at (xs := xs) (k := j) (n := H) hjH HX.out.1
      have d0 : w6.cell? ⟨og, j, none⟩ = some (.int .u64 (x : Int)) := RowsAt.cell H6.out.1 hx
      have f0 : w6.frozen? ⟨og, j, none⟩ = false := RowsAt.free H6.out.1 j
      have s1 : (0 : Int) ≤ (j : Int) := by omega
      have s2 : (j : Int) < (H : Int) := by omega
      have hx6 : x < 2 ^ 64 := small_u64 hW2 HX.out.2.2.1 x (List.mem_of_getElem? hx)
      have hx7 : x ^^^ 2 ^ i < 2 ^ 64 := Nat.xor_lt_two_pow hx6 (Nat.pow_lt_pow_right (by omega) (by omega))
      have s4 : bits .xor .u64 (x : Int) (2 ^ i) = ((x ^^^ 2 ^ i : Nat) : Int) := by rw [two_pow_cast]; exact bits_xor_u64_nat x (2 ^ i) hx6 (show 2 ^ i < 2 ^ 64 from Nat.pow_lt_pow_right (by omega) (by omega))
      have s3 : IntKind.u64.wrap (2 ^ i) = ((2 ^ i : Nat) : Int) := wrap_one i (by omega)
      have s5 : (i : Int) < 64 := by omega
      have s6 : (0 : Int) ≤ (i : Int) := by omega
      have s7 : i < 64 := by omega
      go_upto_region 19 with fail
      go_still_tail 9, (by kernel_rfl)
      change wpList _ _ _ _ _ w6.drew
      have d0' : w6.drew.cell? ⟨og, j, none⟩ = some (.int .u64 (x : Int)) := d0
      have f0' : w6.drew.frozen? ⟨og, j, none⟩ = false := f0
      clear d0 f0
      have HS6 : Hid (RowsAt (w6.setCell ⟨og, j, none⟩ (.int .u64 ((x ^^^ 2 ^ i : Nat) : Int))).drew wq.heap.size (.slice (some ⟨og, 0, none⟩) H oc) (xs.set j (x ^^^ 2 ^ i))) := own_ext (RowsAt.set H6.out.1 HX.out.1 j hjH (x ^^^ 2 ^ i)) (Ext.refl Nope _).drew (fun _ _ z => z)
      have hog : wq.heap.size ≤ og := (World.ownsRow.lt H6.out.1 og (by simp [Value.ownBlock])).1
      have HE7 : Hid (Ext (fun k => k = og) wq (w6.setCell ⟨og, j, none⟩ (.int .u64 ((x ^^^ 2 ^ i : Nat) : Int))).drew) := (Ext.setCell (S := fun k => k = og) (H6.out.2.mono (fun _ z => False.elim z)) og j (fun _ => rfl) _).drew
      have HP1 : Hid (planA W 1 xs (xs.set j (x ^^^ 2 ^ i)) = [⟨i, j, 1, 1⟩]) := plan_one (many := 1) hW1 hW2 HL64.out (by omega) hiW hx
      have HU2 : Hid (U64 (xs.set j (x ^^^ 2 ^ i))) := fun z hz => by
        rcases List.mem_or_eq_of_mem_set hz with h | h
        · exact small_u64 hW2 HX.out.2.2.1 z h
        · rw [h]; exact hx7
      clear hx hx6 hx7
      go_wp2_with fail
      generalize (w6.setCell ⟨og, j, none⟩ (.int .u64 ((x ^^^ 2 ^ i : Nat) : Int))).drew = w7 at *
      have H7 := toHid (show _ ∧ _ ∧ _ from ⟨own_ext HQ2.out.1 HE7.out (fun g hg z => by have h := (World.ownsRow.lt HQ2.out.1 g hg).2; have z : g = og := z; omega), HS6.out, HQ2.out.2.2.trans HE7.out (fun i hi z => absurd (show i = og from z) (by have := HQ2.out.2.2.size; omega))⟩)
      generalize xs.set j (x ^^^ 2 ^ i) = zs at *
      refine (plan_calls W 1 (RowsAt.reads H7.out.1) (RowsAt.reads H7.out.2.1) (HR.out.2.2.2.2.ext0 H7.out.2.2) (small_u64 hW2 HX.out.2.2.1) HU2.out).mono ?_
      rintro e w8 ⟨pv, rfl, r8, x8⟩
      rw [HP1.out] at r8
      have H8 := toHid (show _ ∧ _ from ⟨r8, ext0 H7.out.2.2 x8⟩)
      clear r8 x8
      go_wp2_with fail
      refine (rect_calls i j 1 1 _).mono ?_
      rintro e w9 ⟨rfl, x9⟩
      have H9 := toHid (show _ ∧ _ from ⟨RectsAt.ext0 H8.out.1 x9, ext0 H8.out.2 x9⟩)
      clear x9
      go_wp2_with fail
      refine (samer_calls (xs := [⟨i, j, 1, 1⟩]) (ys := [⟨i, j, 1, 1⟩]) (RectsAt.ext0 H9.out.1 ((Ext.refl Nope w9).alloc _)) (rects_lit (n := 1) [⟨i, j, 1, 1⟩] (heap_alloc_new _ _) rfl (by omega))).mono ?_
      rintro e w10 ⟨rfl, x10⟩
      have HE10 : Hid (Ext Nope w w10) := ext0 (ext0 H9.out.2 ((Ext.refl Nope w9).alloc _)) x10
      rw [decide_eq_true rfl]
      clear x10
      go_wp2
      go_ret
      exact ⟨rfl, HE10.out⟩
end Go.Proofs.YtmmcadbkmfjcbaaDoor
