/-
  PanelPlans: the walk.
-/
import Derived.Test.YtmmcadbkmfjcbaaDoorF1
import Derived.Test.YtmmcadbkmfjcbaaDoorU0
import Derived.Test.YtmmcadbkmfjcbaaDoorP0
import Derived.WalkLawsBesides
import Derived.Laws.Cover1
namespace Go.Proofs.YtmmcadbkmfjcbaaDoor
open Go.RowKit
attribute [local go_sem] alloc_drewN setCell_drewN

theorem run_mn3 {P : Program} {w : World} (ts : Array TypeId) (t : TypeId) (k k' k'' : IntKind) (x y z : Int) : (Builtin.min_ ts t #[.int k x, .int k' y, .int k'' z]).run P w = .ok (.int k (mnI (mnI x y) z)) w := run_min_int3 w ts t k k' k'' x y z
section
attribute [local go_sem ↓] run_mn3
set_option maxRecDepth 100000 in
set_option maxHeartbeats 4000000 in
/-- abugidalaw33.PanelPlans -/
theorem plans_calls {w : World} {v1 v2 : Value} {xs0 ys0 : List Nat} (n most : Int) (hT : Tab w) (hr1 : Reads w v1 xs0) (hu1 : U64 xs0) (hr2 : Reads w v2 ys0) (hu2 : U64 ys0) :
    Calls Tryd.prog 4 #[.agg #[v1, v2], .int .i64 n, .int .i64 most] w fun e w' => e = .returned (.bool true) ∧ Ext Nope w w' := by
  have HR := toHid (show _ ∧ _ from ⟨hr1, hr2⟩)
  have HT := toHid hT
  obtain ⟨av1, cap1, hv1, _⟩ := hr1
  obtain ⟨av2, cap2, hv2, _⟩ := hr2
  obtain ⟨l1, HL1⟩ : ∃ l, Hid (xs0.length = l) := ⟨_, rfl⟩
  obtain ⟨l2, HL2⟩ : ∃ l, Hid (ys0.length = l) := ⟨_, rfl⟩
  rw [HL1.out] at hv1
  rw [HL2.out] at hv2
  subst hv1 hv2
  clear hT
  go_enter Tryd.func4, Tryd.ntmps4
  go_wp2_with fail
  have e0 : Ext Nope w (w.alloc (.cells #[.slice av1 l1 cap1, .slice av2 l2 cap2] 41)) := (Ext.refl _ _).alloc _
  refine (sanity_calls _ (HT.out.ext0 e0)).mono ?_
  rintro e w1 ⟨rfl, x1⟩
  have k0 := (x1.block w.heap.size (by simp) (fun z => z)).trans (heap_alloc_new w (.cells #[.slice av1 l1 cap1, .slice av2 l2 cap2] 41))
  have e1 := ext0 e0 x1
  clear e0 x1
  go_upto_region 2 with fail
  have SK : Hid (∀ w', Ext Nope w1 w' → w'.cell? ⟨w.heap.size, 0, none⟩ = some (.slice av1 l1 cap1) ∧ w'.cell? ⟨w.heap.size, 1, none⟩ = some (.slice av2 l2 cap2)) := fun w' e => by
    have kk := (e.block _ (lt_of_heap k0) (fun z => z)).trans k0
    exact ⟨cell_of_blk kk 0, cell_of_blk kk 1⟩
  refine wp_region_head 6 (fun w' => Ext Nope w1 w' ∧ w'.cell? ⟨w.heap.size, 0, none⟩ = some (.slice av1 l1 cap1) ∧ w'.cell? ⟨w.heap.size, 1, none⟩ = some (.slice av2 l2 cap2)) (by kernel_rfl) (by kernel_rfl) ⟨(Ext.refl _ _).drew, SK.out _ (Ext.refl _ _).drew⟩ (fun hO hHeld => ?_)
  refine wpAnyT_takeD (i := 0) (d := some 19) (v := ?_) hO rfl rfl (by kernel_rfl) (fun _ _ _ h => h) (Or.inl ⟨by rfl, ?_⟩) (by exact hHeld) ?_
  rotate_left
  · intro w' hSw
    obtain ⟨_, z1, z2⟩ := hSw
    go_simp
    try (with_reducible rfl)
  try simp only [Act.put, List.setIfInBounds_toArray, List.set_cons_zero, List.set_cons_succ]
  refine wpAnyT_takeD (i := 1) (d := some 20) (v := ?_) hO rfl rfl (by kernel_rfl) (fun _ _ _ h => h) (Or.inl ⟨by rfl, ?_⟩) (by exact hHeld) ?_
  rotate_left
  · intro w' hSw
    obtain ⟨_, z1, z2⟩ := hSw
    go_simp
    try (with_reducible rfl)
  try simp only [Act.put, List.setIfInBounds_toArray, List.set_cons_zero, List.set_cons_succ]
  refine wpAnyT_takeD (i := 3) (d := some 22) (v := ?_) hO rfl rfl (by kernel_rfl) (fun _ _ _ h => h) (Or.inl ⟨by rfl, ?_⟩) (by exact hHeld) ?_
  rotate_left
  · intro w' hSw
    obtain ⟨_, z1, z2⟩ := hSw
    go_simp
    try (with_reducible rfl)
  try simp only [Act.put, List.setIfInBounds_toArray, List.set_cons_zero, List.set_cons_succ]
  refine wpAnyT_takeD (i := 4) (d := some 23) (v := ?_) hO rfl rfl (by kernel_rfl) (fun _ _ _ h => h) (Or.inl ⟨by rfl, ?_⟩) (by exact hHeld) ?_
  rotate_left
  · intro w' hSw
    obtain ⟨_, z1, z2⟩ := hSw
    go_simp
    try (with_reducible rfl)
  try simp only [Act.put, List.setIfInBounds_toArray, List.set_cons_zero, List.set_cons_succ]
  clear hHeld
  refine wpAnyT_one (i := 2) rfl (by kernel_rfl) (by rfl) (fun K hK => ?_)
  go_simp
  refine (few_calls ((HR.out.1.ext0 e1).ext0 (Ext.refl Nope _).drew)).mono ?_
  rintro e w2 ⟨u1, rfl, r1, x2⟩
  have y2 := ext0 (Ext.refl Nope w1).drew x2
  try go_simp
  refine hK.out _ _ ⟨y2, SK.out _ y2⟩ (fun hHeld => ?_)
  clear hK K
  try simp only [Act.put, List.setIfInBounds_toArray, List.set_cons_zero, List.set_cons_succ]
  clear hHeld
  refine wpAnyT_one (i := 5) rfl (by kernel_rfl) (by rfl) (fun K hK => ?_)
  go_simp
  refine (few_calls ((HR.out.2.ext0 e1).ext0 y2)).mono ?_
  rintro e w3 ⟨u2, rfl, r2, x3⟩
  have y3 := ext0 y2 x3
  have s1 := r1.reads.ext0 x3
  have s2 := r2.reads
  clear y2 x2 x3 r1 r2
  try go_simp
  refine hK.out _ _ ⟨y3, SK.out _ y3⟩ (fun hHeld => ?_)
  clear hK K
  try simp only [Act.put, List.setIfInBounds_toArray, List.set_cons_zero, List.set_cons_succ]
  clear hHeld
  refine wpAnyT_done (by kernel_rfl) ⟨by kernel_rfl, ?_⟩
  simp only [List.drop_succ_cons, List.drop_zero]
  have e3 := ext0 e1 y3
  obtain ⟨xs, hxs⟩ : ∃ xs, xs0.take 66 = xs := ⟨_, rfl⟩
  obtain ⟨ys, hys⟩ : ∃ ys, ys0.take 66 = ys := ⟨_, rfl⟩
  have hux : U64 xs := by rw [← hxs]; exact hu1.sub fun x hx => List.mem_of_mem_take hx
  have huy : U64 ys := by rw [← hys]; exact hu2.sub fun x hx => List.mem_of_mem_take hx
  have hlx : xs.length ≤ 66 := by rw [← hxs, List.length_take]; omega
  have hly : ys.length ≤ 66 := by rw [← hys, List.length_take]; omega
  rw [hxs] at s1
  rw [hys] at s2
  clear hxs hys hu1 hu2 e1 y3 SK HR k0
  have HS := toHid (show _ ∧ _ from ⟨s1, s2⟩)
  obtain ⟨bv1, cp1, hb1, q1, q2, _⟩ := s1
  obtain ⟨bv2, cp2, hb2, q3, q4, _⟩ := s2
  obtain ⟨m1, HM1⟩ : ∃ l, Hid (xs.length = l) := ⟨_, rfl⟩
  obtain ⟨m2, HM2⟩ : ∃ l, Hid (ys.length = l) := ⟨_, rfl⟩
  rw [HM1.out] at hb1 hlx q1
  rw [HM2.out] at hb2 hly q3
  subst hb1 hb2
  obtain ⟨h, hh⟩ : ∃ h : Nat, mnI (mnI (m1 : Int) (m2 : Int)) 64 = (h : Int) := ⟨min (min m1 m2) 64, by rw [mnI_eq, mnI_eq]; omega⟩
  have hh1 : h ≤ m1 ∧ h ≤ m2 := by rw [mnI_eq, mnI_eq] at hh; omega
  go_upto_region 5 with fail
  clear hh
  generalize wrap64 (1 + bits BinOp.and IntKind.i64 n 63) = near
  have s1 : (0 : Int) ≤ (h : Int) := by omega
  have s2 : (h : Int) ≤ (m1 : Int) := by omega
  have s3 : (h : Int) ≤ (m2 : Int) := by omega
  have s4 : (h : Int) ≤ (cp1 : Int) := by omega
  have s5 : (h : Int) ≤ (cp2 : Int) := by omega
  go_region_held3 (fun _ => True) (trivial) (fail)
  clear s1 s2 s3 s4 s5
  have KB : (w3.alloc (.cells #[.slice bv1 m1 cp1, .slice bv2 m2 cp2, .slice bv1 h cp1, .slice bv2 h cp2, .slice bv1 h cp1, .slice bv1 h cp1] 41)).drew.heap[w3.heap.size]? = some (.cells #[.slice bv1 m1 cp1, .slice bv2 m2 cp2, .slice bv1 h cp1, .slice bv2 h cp2, .slice bv1 h cp1, .slice bv1 h cp1] 41 (0, 0)) := heap_alloc_new w3 _
  have E4 : Ext Nope w3 (w3.alloc (.cells #[.slice bv1 m1 cp1, .slice bv2 m2 cp2, .slice bv1 h cp1, .slice bv2 h cp2, .slice bv1 h cp1, .slice bv1 h cp1] 41)).drew := ((Ext.refl _ _).alloc _).drew
  generalize (w3.alloc (.cells #[.slice bv1 m1 cp1, .slice bv2 m2 cp2, .slice bv1 h cp1, .slice bv2 h cp2, .slice bv1 h cp1, .slice bv1 h cp1] 41)).drew = w4 at *
  have hx1 := (HS.out.1.take h hh1.1).ext0 E4
  have hx2 := (HS.out.2.take h hh1.2).ext0 E4
  have hx0 := HS.out.1.ext0 E4
  have hx3 := HS.out.2.ext0 E4
  have PAIR : Hid (∀ W, Ext Nope w4 W → ∀ k, k < 3 → ∃ aa la ca ab lb cb X Y, W.cell? ⟨w3.heap.size, k * 2, none⟩ = some (.slice aa la ca) ∧ W.cell? ⟨w3.heap.size, k * 2 + 1, none⟩ = some (.slice ab lb cb) ∧ Reads W (.slice aa la ca) X ∧ U64 X ∧ Reads W (.slice ab lb cb) Y ∧ U64 Y) := fun W e k hk => by
    have kb := (e.block _ (lt_of_heap KB) (fun z => z)).trans KB
    have t1 : U64 (xs.take h) := hux.sub fun x hx => List.mem_of_mem_take hx
    have t2 : U64 (ys.take h) := huy.sub fun x hx => List.mem_of_mem_take hx
    rcases (show k = 0 ∨ k = 1 ∨ k = 2 by omega) with rfl | rfl | rfl
    · exact ⟨_, _, _, _, _, _, xs, ys, cell_of_blk kb 0, cell_of_blk kb 1, hx0.ext0 e, hux, hx3.ext0 e, huy⟩
    · exact ⟨_, _, _, _, _, _, xs.take h, ys.take h, cell_of_blk kb 2, cell_of_blk kb 3, hx1.ext0 e, t1, hx2.ext0 e, t2⟩
    · exact ⟨_, _, _, _, _, _, xs.take h, xs.take h, cell_of_blk kb 4, cell_of_blk kb 5, hx1.ext0 e, t1, hx1.ext0 e, t1⟩
  have HE3 := toHid (show Ext Nope w w4 from ext0 e3 E4)
  have hBlt : w3.heap.size < w4.heap.size := lt_of_heap KB
  clear KB E4 hx0 hx1 hx2 hx3 HS e3 q1 q2 q3 q4 hlx hly hh1
  generalize w3.heap.size = B at *
  go_wp2
  go_loopw [52] (fun i wr => ∃ k : Nat, i = .int .i64 k ∧ k ≤ 3 ∧ Ext Nope w4 wr) (fun i _ => 3 - (intOf i).toNat)
  case atStart => exact ⟨0, rfl, by omega, Ext.refl _ _⟩
  case round =>
    obtain ⟨k, rfl, hk, hE⟩ := hrel
    by_cases hk3 : k < 3
    · obtain ⟨aa, la, ca, ab, lb, cb, X, Y, c0, c1, rX, uX, rY, uY⟩ := PAIR.out wr hE k hk3
      rename World => wo
      have HXY := toHid (show _ ∧ _ from ⟨rX, rY⟩)
      have s1 : (0 : Int) ≤ (k : Int) := by omega
      have s2 : (k : Int) < 3 := by omega
      clear rX rY
      go_wp2
      have K13 := (heap_alloc_old (wo.alloc (.cells #[.slice aa la ca, .slice ab lb cb] 41)) (.cells #[.int .i64 n, .int .i64 near, .int .i64 64] 3) wo.heap.size (by simp)).trans (heap_alloc_new wo (.cells #[.slice aa la ca, .slice ab lb cb] 41))
      have K58 := heap_alloc_at (wo.alloc (.cells #[.slice aa la ca, .slice ab lb cb] 41)) (.cells #[.int .i64 n, .int .i64 near, .int .i64 64] 3) (wo.heap.size + 1) (by simp)
      have E6 : Ext Nope wo ((wo.alloc (.cells #[.slice aa la ca, .slice ab lb cb] 41)).alloc (.cells #[.int .i64 n, .int .i64 near, .int .i64 64] 3)) := ((Ext.refl _ _).alloc _).alloc _
      generalize (wo.alloc (.cells #[.slice aa la ca, .slice ab lb cb] 41)).alloc (.cells #[.int .i64 n, .int .i64 near, .int .i64 64] 3) = w6 at *
      have HK := toHid (show _ ∧ _ ∧ _ ∧ _ from ⟨K13, K58, hE, E6⟩)
      clear K13 K58 E6 c0 c1 s1 s2 hE
      go_loopw [60] (fun i wv => ∃ j : Nat, i = .int .i64 j ∧ j ≤ 3 ∧ Ext Nope w6 wv) (fun i _ => 3 - (intOf i).toNat)
      case atStart => exact ⟨0, rfl, by omega, Ext.refl _ _⟩
      case round =>
        obtain ⟨j, rfl, hj, hE6⟩ := hrel
        rename World => wv
        by_cases hj3 : j < 3
        · have kb := (hE6.block _ (lt_of_heap HK.out.2.1) (fun z => z)).trans HK.out.2.1
          obtain ⟨nj, hnj⟩ : ∃ nj : Int, wv.cell? ⟨wo.heap.size + 1, j, none⟩ = some (.int .i64 nj) := by
            rcases (show j = 0 ∨ j = 1 ∨ j = 2 by omega) with rfl | rfl | rfl
            · exact ⟨_, cell_of_blk kb 0⟩
            · exact ⟨_, cell_of_blk kb 1⟩
            · exact ⟨_, cell_of_blk kb 2⟩
          have s1 : (0 : Int) ≤ (j : Int) := by omega
          have s2 : (j : Int) < 3 := by omega
          clear kb
          go_wp2
          generalize hz : wrap64 (1 + bits BinOp.and IntKind.i64 most 7) = mz at *
          clear hz
          have K68 := heap_alloc_new wv (.cells #[.int .i64 most, .int .i64 mz] 3)
          have E7 : Ext Nope wv (wv.alloc (.cells #[.int .i64 most, .int .i64 mz] 3)) := (Ext.refl _ _).alloc _
          generalize wv.alloc (.cells #[.int .i64 most, .int .i64 mz] 3) = w7 at *
          have HK7 := toHid (show _ ∧ _ ∧ _ from ⟨K68, hE6, E7⟩)
          clear K68 E7 hnj s1 s2 hE6
          go_loopw [70] (fun i wx => ∃ l : Nat, i = .int .i64 l ∧ l ≤ 2 ∧ Ext Nope w7 wx) (fun i _ => 2 - (intOf i).toNat)
          case atStart => exact ⟨0, rfl, by omega, Ext.refl _ _⟩
          case round =>
            obtain ⟨l, rfl, hl, hE8⟩ := hrel
            rename World => wx
            by_cases hl2 : l < 2
            · have kb := (hE8.block _ (lt_of_heap HK7.out.1) (fun z => z)).trans HK7.out.1
              obtain ⟨ml, hml⟩ : ∃ ml : Int, wx.cell? ⟨wv.heap.size, l, none⟩ = some (.int .i64 ml) := by
                rcases (show l = 0 ∨ l = 1 by omega) with rfl | rfl
                · exact ⟨_, cell_of_blk kb 0⟩
                · exact ⟨_, cell_of_blk kb 1⟩
              have s1 : (0 : Int) ≤ (l : Int) := by omega
              have s2 : (l : Int) < 2 := by omega
              have E9 : Ext Nope w6 wx := ext0 (ext0 HK7.out.2.1 HK7.out.2.2) hE8
              have E10 : Ext Nope wo wx := ext0 HK.out.2.2.2 E9
              have kx := (E9.block _ (lt_of_heap HK.out.1) (fun z => z)).trans HK.out.1
              have SK : Hid (∀ w', Ext Nope wx w' → w'.cell? ⟨wo.heap.size, 0, none⟩ = some (.slice aa la ca) ∧ w'.cell? ⟨wo.heap.size, 1, none⟩ = some (.slice ab lb cb)) := fun w' e => by
                have kk := (e.block _ (lt_of_heap kx) (fun z => z)).trans kx
                exact ⟨cell_of_blk kk 0, cell_of_blk kk 1⟩
              have HT9 : Hid (Tab wx) := HT.out.ext0 (ext0 (ext0 HE3.out HK.out.2.2.1) E10)
              have HX9 := toHid (show _ ∧ _ from ⟨HXY.out.1.ext0 E10, HXY.out.2.ext0 E10⟩)
              have HE8 := toHid hE8
              clear kb E9 E10 kx hE8
              go_upto_region 14 with fail
              clear hml s1 s2
              refine wp_region_head 15 (fun w' => Ext Nope wx w' ∧ w'.cell? ⟨wo.heap.size, 0, none⟩ = some (.slice aa la ca) ∧ w'.cell? ⟨wo.heap.size, 1, none⟩ = some (.slice ab lb cb)) (by kernel_rfl) (by kernel_rfl) ⟨(Ext.refl _ _).drew, SK.out _ (Ext.refl _ _).drew⟩ (fun hO hHeld => ?_)
              refine wpAnyT_takeD (i := 0) (d := some 74) (v := ?_) hO rfl rfl (by kernel_rfl) (fun _ _ _ h => h) (Or.inl ⟨by rfl, ?_⟩) (by exact hHeld) ?_
              rotate_left
              · intro w' hSw
                obtain ⟨_, z1, z2⟩ := hSw
                go_simp
                try (with_reducible rfl)
              try simp only [Act.put, List.setIfInBounds_toArray, List.set_cons_zero, List.set_cons_succ]
              refine wpAnyT_takeD (i := 1) (d := some 75) (v := ?_) hO rfl rfl (by kernel_rfl) (fun _ _ _ h => h) (Or.inl ⟨by rfl, ?_⟩) (by exact hHeld) ?_
              rotate_left
              · intro w' hSw
                obtain ⟨_, z1, z2⟩ := hSw
                go_simp
                try (with_reducible rfl)
              try simp only [Act.put, List.setIfInBounds_toArray, List.set_cons_zero, List.set_cons_succ]
              refine wpAnyT_takeD (i := 2) (d := some 76) (v := ?_) hO rfl rfl (by kernel_rfl) (fun _ _ _ h => h) (Or.inl ⟨by rfl, ?_⟩) (by exact hHeld) ?_
              rotate_left
              · intro w' hSw
                obtain ⟨_, z1, z2⟩ := hSw
                go_simp
                try (with_reducible rfl)
              try simp only [Act.put, List.setIfInBounds_toArray, List.set_cons_zero, List.set_cons_succ]
              refine wpAnyT_takeD (i := 3) (d := some 77) (v := ?_) hO rfl rfl (by kernel_rfl) (fun _ _ _ h => h) (Or.inl ⟨by rfl, ?_⟩) (by exact hHeld) ?_
              rotate_left
              · intro w' hSw
                obtain ⟨_, z1, z2⟩ := hSw
                go_simp
                try (with_reducible rfl)
              try simp only [Act.put, List.setIfInBounds_toArray, List.set_cons_zero, List.set_cons_succ]
              refine wpAnyT_takeD (i := 4) (d := some 78) (v := ?_) hO rfl rfl (by kernel_rfl) (fun _ _ _ h => h) (Or.inl ⟨by rfl, ?_⟩) (by exact hHeld) ?_
              rotate_left
              · intro w' hSw
                obtain ⟨_, z1, z2⟩ := hSw
                go_simp
                try (with_reducible rfl)
              try simp only [Act.put, List.setIfInBounds_toArray, List.set_cons_zero, List.set_cons_succ]
              refine wpAnyT_takeD (i := 5) (d := some 79) (v := ?_) hO rfl rfl (by kernel_rfl) (fun _ _ _ h => h) (Or.inl ⟨by rfl, ?_⟩) (by exact hHeld) ?_
              rotate_left
              · intro w' hSw
                obtain ⟨_, z1, z2⟩ := hSw
                go_simp
                try (with_reducible rfl)
              try simp only [Act.put, List.setIfInBounds_toArray, List.set_cons_zero, List.set_cons_succ]
              refine wpAnyT_takeD (i := 7) (d := some 81) (v := ?_) hO rfl rfl (by kernel_rfl) (fun _ _ _ h => h) (Or.inl ⟨by rfl, ?_⟩) (by exact hHeld) ?_
              rotate_left
              · intro w' hSw
                obtain ⟨_, z1, z2⟩ := hSw
                go_simp
                try (with_reducible rfl)
              try simp only [Act.put, List.setIfInBounds_toArray, List.set_cons_zero, List.set_cons_succ]
              refine wpAnyT_takeD (i := 8) (d := some 82) (v := ?_) hO rfl rfl (by kernel_rfl) (fun _ _ _ h => h) (Or.inl ⟨by rfl, ?_⟩) (by exact hHeld) ?_
              rotate_left
              · intro w' hSw
                obtain ⟨_, z1, z2⟩ := hSw
                go_simp
                try (with_reducible rfl)
              try simp only [Act.put, List.setIfInBounds_toArray, List.set_cons_zero, List.set_cons_succ]
              refine wpAnyT_takeD (i := 9) (d := some 83) (v := ?_) hO rfl rfl (by kernel_rfl) (fun _ _ _ h => h) (Or.inl ⟨by rfl, ?_⟩) (by exact hHeld) ?_
              rotate_left
              · intro w' hSw
                obtain ⟨_, z1, z2⟩ := hSw
                go_simp
                try (with_reducible rfl)
              try simp only [Act.put, List.setIfInBounds_toArray, List.set_cons_zero, List.set_cons_succ]
              refine wpAnyT_takeD (i := 10) (d := some 84) (v := ?_) hO rfl rfl (by kernel_rfl) (fun _ _ _ h => h) (Or.inl ⟨by rfl, ?_⟩) (by exact hHeld) ?_
              rotate_left
              · intro w' hSw
                obtain ⟨_, z1, z2⟩ := hSw
                go_simp
                try (with_reducible rfl)
              try simp only [Act.put, List.setIfInBounds_toArray, List.set_cons_zero, List.set_cons_succ]
              refine wpAnyT_takeD (i := 11) (d := some 85) (v := ?_) hO rfl rfl (by kernel_rfl) (fun _ _ _ h => h) (Or.inl ⟨by rfl, ?_⟩) (by exact hHeld) ?_
              rotate_left
              · intro w' hSw
                obtain ⟨_, z1, z2⟩ := hSw
                go_simp
                try (with_reducible rfl)
              try simp only [Act.put, List.setIfInBounds_toArray, List.set_cons_zero, List.set_cons_succ]
              refine wpAnyT_takeD (i := 12) (d := some 86) (v := ?_) hO rfl rfl (by kernel_rfl) (fun _ _ _ h => h) (Or.inl ⟨by rfl, ?_⟩) (by exact hHeld) ?_
              rotate_left
              · intro w' hSw
                obtain ⟨_, z1, z2⟩ := hSw
                go_simp
                try (with_reducible rfl)
              try simp only [Act.put, List.setIfInBounds_toArray, List.set_cons_zero, List.set_cons_succ]
              clear hHeld
              refine wpAnyT_one (i := 6) rfl (by kernel_rfl) (by rfl) (fun K hK => ?_)
              go_simp
              refine (plan_calls nj ml (HX9.out.1.ext0 (Ext.refl Nope _).drew) (HX9.out.2.ext0 (Ext.refl Nope _).drew) (HT9.out.ext0 (Ext.refl Nope _).drew) uX uY).mono ?_
              rintro e w10 ⟨p1, rfl, rp1, x10⟩
              have y10 := ext0 (Ext.refl Nope wx).drew x10
              try go_simp
              refine hK.out _ _ ⟨y10, SK.out _ y10⟩ (fun hHeld => ?_)
              clear hK K hHeld
              try simp only [Act.put, List.setIfInBounds_toArray, List.set_cons_zero, List.set_cons_succ]
              refine wpAnyT_one (i := 13) rfl (by kernel_rfl) (by rfl) (fun K hK => ?_)
              go_simp
              refine (rplan_calls nj ml (HX9.out.1.ext0 y10) (HX9.out.2.ext0 y10) uX uY).mono ?_
              rintro e w11 ⟨p2, rfl, rp2, x11⟩
              have y11 := ext0 y10 x11
              have rq1 := rp1.ext0 x11
              clear rp1 x11 x10 y10
              try go_simp
              refine hK.out _ _ ⟨y11, SK.out _ y11⟩ (fun hHeld => ?_)
              clear hK K hHeld
              try simp only [Act.put, List.setIfInBounds_toArray, List.set_cons_zero, List.set_cons_succ]
              refine wpAnyT_one (i := 14) rfl (by kernel_rfl) (by rfl) (fun K hK => ?_)
              go_simp
              refine (samer_calls rq1 rp2).mono ?_
              rintro e w12 ⟨rfl, x12⟩
              have y12 := ext0 y11 x12
              rw [decide_eq_true (plan_same nj ml X Y).symm]
              clear rq1 rp2 x12 y11
              try go_simp
              refine hK.out _ _ ⟨y12, SK.out _ y12⟩ (fun hHeld => ?_)
              clear hK K hHeld
              try simp only [Act.put, List.setIfInBounds_toArray, List.set_cons_zero, List.set_cons_succ]
              refine wpAnyT_done (by kernel_rfl) ⟨by kernel_rfl, ?_⟩
              simp only [List.drop_succ_cons, List.drop_zero]
              have HF := toHid (ext0 HE8.out y12)
              clear y12
              go_wp2
              go_roundw
              case rel => exact ⟨l + 1, by go_num, by omega, HF.out⟩
              case measure => simp [intOf]; omega
            · have hll : l = 2 := by omega
              subst hll
              have HF := toHid (ext0 (ext0 HK7.out.2.1 HK7.out.2.2) hE8)
              clear hE8
              go_wp2
              go_roundw
              case rel => exact ⟨j + 1, by go_num, by omega, HF.out⟩
              case measure => simp [intOf]; omega
        · have hjj : j = 3 := by omega
          subst hjj
          have HF := toHid (ext0 (ext0 HK.out.2.2.1 HK.out.2.2.2) hE6)
          clear hE6
          go_wp2
          go_roundw
          case rel => exact ⟨k + 1, by go_num, by omega, HF.out⟩
          case measure => simp [intOf]; omega
    · have hkk : k = 3 := by omega
      subst hkk
      have HF := toHid (ext0 HE3.out hE)
      clear hE
      go_wp2
      go_ret
      exact ⟨rfl, HF.out⟩
end
end Go.Proofs.YtmmcadbkmfjcbaaDoor
