/-
  PanelCuts: the walk.
-/
import Derived.Test.YtmmcadbkmfjcbaaDoorF1
import Derived.Test.YtmmcadbkmfjcbaaDoorU0
namespace Go.Proofs.YtmmcadbkmfjcbaaDoor
open Go.RowKit
attribute [local go_sem] alloc_drewN setCell_drewN

theorem mader_i64 {q0 q1 q2 q3 w h : Int} (_a0 : 0 ≤ q0 ∧ q0 ≤ 255) (_a1 : 0 ≤ q1 ∧ q1 ≤ 255) (_a2 : 0 ≤ q2 ∧ q2 ≤ 255) (_a3 : 0 ≤ q3 ∧ q3 ≤ 255) (hw : 1 ≤ w) (hw2 : w ≤ 1000) (hh : 1 ≤ h) (hh2 : h ≤ 1000) : (madeR q0 q1 q2 q3 w h).i64 := by
  have h1 := madeR_in (q0 := q0) (q1 := q1) (q2 := q2) (q3 := q3) hw hh
  unfold inB at h1
  have h2 := of_decide_eq_true h1
  unfold R.i64
  omega
section
attribute [local go_sem ↓] run_mn run_mx
set_option maxRecDepth 100000 in
set_option maxHeartbeats 4000000 in
/-- abugidalaw33.PanelCuts -/
theorem cuts_calls {w : World} {v : Value} {xs : List Nat} {c : R} (q0 q1 q2 q3 : Int) (hT : Tab w) (hr : Reads w v xs) (hu : U64 xs) (hc : c.i64) (a0 : 0 ≤ q0 ∧ q0 ≤ 255) (a1 : 0 ≤ q1 ∧ q1 ≤ 255) (a2 : 0 ≤ q2 ∧ q2 ≤ 255) (a3 : 0 ≤ q3 ∧ q3 ≤ 255) :
    Calls Tryd.prog 5 #[v, c.val, .agg #[.int .u8 q0, .int .u8 q1, .int .u8 q2, .int .u8 q3]] w fun e w' => e = .returned (.bool true) ∧ Ext Nope w w' := by
  have HR := toHid hr
  have HT := toHid hT
  obtain ⟨av, cap, hv, _⟩ := hr
  clear hT hv
  go_enter Tryd.func5, Tryd.ntmps5
  go_wp2_with fail
  have e0 : Ext Nope w ((w.alloc (.cells #[.int .i64 c.x, .int .i64 c.y, .int .i64 c.w, .int .i64 c.h] 31)).alloc (.cells #[.int .u8 q0, .int .u8 q1, .int .u8 q2, .int .u8 q3] 29)) := ((Ext.refl _ _).alloc _).alloc _
  refine (sanity_calls _ (HT.out.ext0 e0)).mono ?_
  rintro e w1 ⟨rfl, x1⟩
  have k0 := (x1.block w.heap.size (by simp; omega) (fun z => z)).trans ((heap_alloc_old _ _ _ (by simp)).trans (heap_alloc_new w (.cells #[.int .i64 c.x, .int .i64 c.y, .int .i64 c.w, .int .i64 c.h] 31)))
  have k1 := (x1.block (w.heap.size + 1) (by simp) (fun z => z)).trans (heap_alloc_at _ _ _ (by simp))
  have e1 := ext0 e0 x1
  clear e0 x1
  go_wp2_with fail
  refine (few_calls (HR.out.ext0 e1)).mono ?_
  rintro e w2 ⟨u, rfl, hu2, x2⟩
  have k2 := (x2.block w.heap.size (lt_of_heap k0) (fun z => z)).trans k0
  have k3 := (x2.block (w.heap.size + 1) (lt_of_heap k1) (fun z => z)).trans k1
  have e2 := ext0 e1 x2
  clear e1 x2 k0 k1 HR
  obtain ⟨ys, hys⟩ : ∃ ys, xs.take 66 = ys := ⟨_, rfl⟩
  have huy : U64 ys := by rw [← hys]; exact hu.sub fun x hx => List.mem_of_mem_take hx
  have hly : ys.length ≤ 66 := by rw [← hys, List.length_take]; omega
  rw [hys] at hu2
  clear hys hu
  obtain ⟨ua, ucap, hua, _⟩ := own_gen hu2
  have HU := toHid (hu2.reads)
  clear hu2
  obtain ⟨m, HM⟩ : ∃ m, Hid (ys.length = m) := ⟨_, rfl⟩
  rw [HM.out] at hua hly
  subst hua
  have b0 := cell_of_blk k3 0
  have b1 := cell_of_blk k3 1
  have b2 := cell_of_blk k3 2
  have b3 := cell_of_blk k3 3
  have hmx : 1 ≤ mxI (m : Int) 1 ∧ mxI (m : Int) 1 ≤ 66 := by rw [mxI_eq]; omega
  go_wp2_with fail
  obtain ⟨mh, hmh⟩ : ∃ mh, mxI (m : Int) 1 = mh := ⟨_, rfl⟩
  rw [hmh] at hmx ⊢
  refine (mader_calls q0 q1 q2 q3 64 mh _ a0 a1 a2 a3 (by omega) (by omega) hmx.1 (by omega)).mono ?_
  rintro e w4 ⟨rfl, x4⟩
  have hnr : (madeR q0 q1 q2 q3 64 mh).i64 := mader_i64 a0 a1 a2 a3 (by omega) (by omega) hmx.1 (by omega)
  obtain ⟨nr, hn⟩ : ∃ nr, madeR q0 q1 q2 q3 64 mh = nr := ⟨_, rfl⟩
  rw [hn] at hnr ⊢
  have k4 := (x4.block w.heap.size (lt_of_heap k2) (fun z => z)).trans k2
  have e4 := ext0 e2 x4
  have HU4 := toHid (HU.out.ext0 x4)
  have hly2 : ys.length ≤ 100000 := by rw [HM.out]; omega
  clear x4 k2 k3 b0 b1 b2 b3 hn hmh hmx e2 HU
  go_upto_region 4 with fail
  have SK : Hid (∀ w', Ext Nope (w4.alloc (.cells #[.int .i64 nr.x, .int .i64 nr.y, .int .i64 nr.w, .int .i64 nr.h] 31)) w' → (w'.cell? ⟨w.heap.size, 0, none⟩ = some (.int .i64 c.x) ∧ w'.cell? ⟨w.heap.size, 1, none⟩ = some (.int .i64 c.y) ∧ w'.cell? ⟨w.heap.size, 2, none⟩ = some (.int .i64 c.w) ∧ w'.cell? ⟨w.heap.size, 3, none⟩ = some (.int .i64 c.h)) ∧ (w'.cell? ⟨w4.heap.size, 0, none⟩ = some (.int .i64 nr.x) ∧ w'.cell? ⟨w4.heap.size, 1, none⟩ = some (.int .i64 nr.y) ∧ w'.cell? ⟨w4.heap.size, 2, none⟩ = some (.int .i64 nr.w) ∧ w'.cell? ⟨w4.heap.size, 3, none⟩ = some (.int .i64 nr.h))) := fun w' e => by
    have kn := (e.block w4.heap.size (by simp) (fun z => z)).trans (heap_alloc_new w4 _)
    have kc := (e.block w.heap.size (by have := lt_of_heap k4; simp; omega) (fun z => z)).trans ((heap_alloc_old w4 _ _ (lt_of_heap k4)).trans k4)
    obtain ⟨q0, q1, q2, q3⟩ := r_cells (o := nr) kn
    obtain ⟨p0, p1, p2, p3⟩ := r_cells (o := c) kc
    exact ⟨⟨p0, p1, p2, p3⟩, ⟨q0, q1, q2, q3⟩⟩
  have HU5 : Hid (∀ w', Ext Nope (w4.alloc (.cells #[.int .i64 nr.x, .int .i64 nr.y, .int .i64 nr.w, .int .i64 nr.h] 31)) w' → Reads w' (.slice ua m ucap) ys) := fun w' e => (HU4.out.ext0 ((Ext.refl _ _).alloc _)).ext0 e
  refine wp_region_head 18 (fun w' => Ext Nope (w4.alloc (.cells #[.int .i64 nr.x, .int .i64 nr.y, .int .i64 nr.w, .int .i64 nr.h] 31)) w' ∧ (w'.cell? ⟨w.heap.size, 0, none⟩ = some (.int .i64 c.x) ∧ w'.cell? ⟨w.heap.size, 1, none⟩ = some (.int .i64 c.y) ∧ w'.cell? ⟨w.heap.size, 2, none⟩ = some (.int .i64 c.w) ∧ w'.cell? ⟨w.heap.size, 3, none⟩ = some (.int .i64 c.h)) ∧ (w'.cell? ⟨w4.heap.size, 0, none⟩ = some (.int .i64 nr.x) ∧ w'.cell? ⟨w4.heap.size, 1, none⟩ = some (.int .i64 nr.y) ∧ w'.cell? ⟨w4.heap.size, 2, none⟩ = some (.int .i64 nr.w) ∧ w'.cell? ⟨w4.heap.size, 3, none⟩ = some (.int .i64 nr.h))) (by kernel_rfl) (by kernel_rfl) ⟨(Ext.refl _ _).drew, SK.out _ (Ext.refl _ _).drew⟩ (fun hO hHeld => ?_)
  refine wpAnyT_takeD (i := 0) (d := some 17) (v := ?_) hO rfl rfl (by kernel_rfl) (fun _ _ _ h => h) (Or.inl ⟨by rfl, ?_⟩) (by exact hHeld) ?_
  rotate_left
  · intro w' hSw
    obtain ⟨_, ⟨z1, z2, z3, z4⟩, ⟨z5, z6, z7, z8⟩⟩ := hSw
    go_simp
    try (with_reducible rfl)
  try simp only [Act.put, List.setIfInBounds_toArray, List.set_cons_zero, List.set_cons_succ]
  refine wpAnyT_takeD (i := 1) (d := some 18) (v := ?_) hO rfl rfl (by kernel_rfl) (fun _ _ _ h => h) (Or.inl ⟨by rfl, ?_⟩) (by exact hHeld) ?_
  rotate_left
  · intro w' hSw
    obtain ⟨_, ⟨z1, z2, z3, z4⟩, ⟨z5, z6, z7, z8⟩⟩ := hSw
    go_simp
    try (with_reducible rfl)
  try simp only [Act.put, List.setIfInBounds_toArray, List.set_cons_zero, List.set_cons_succ]
  refine wpAnyT_takeD (i := 2) (d := some 19) (v := ?_) hO rfl rfl (by kernel_rfl) (fun _ _ _ h => h) (Or.inl ⟨by rfl, ?_⟩) (by exact hHeld) ?_
  rotate_left
  · intro w' hSw
    obtain ⟨_, ⟨z1, z2, z3, z4⟩, ⟨z5, z6, z7, z8⟩⟩ := hSw
    go_simp
    try (with_reducible rfl)
  try simp only [Act.put, List.setIfInBounds_toArray, List.set_cons_zero, List.set_cons_succ]
  refine wpAnyT_takeD (i := 3) (d := some 20) (v := ?_) hO rfl rfl (by kernel_rfl) (fun _ _ _ h => h) (Or.inl ⟨by rfl, ?_⟩) (by exact hHeld) ?_
  rotate_left
  · intro w' hSw
    obtain ⟨_, ⟨z1, z2, z3, z4⟩, ⟨z5, z6, z7, z8⟩⟩ := hSw
    go_simp
    try (with_reducible rfl)
  try simp only [Act.put, List.setIfInBounds_toArray, List.set_cons_zero, List.set_cons_succ]
  refine wpAnyT_takeD (i := 5) (d := some 22) (v := ?_) hO rfl rfl (by kernel_rfl) (fun _ _ _ h => h) (Or.inl ⟨by rfl, ?_⟩) (by exact hHeld) ?_
  rotate_left
  · intro w' hSw
    obtain ⟨_, ⟨z1, z2, z3, z4⟩, ⟨z5, z6, z7, z8⟩⟩ := hSw
    go_simp
    try (with_reducible rfl)
  try simp only [Act.put, List.setIfInBounds_toArray, List.set_cons_zero, List.set_cons_succ]
  refine wpAnyT_takeD (i := 6) (d := some 23) (v := ?_) hO rfl rfl (by kernel_rfl) (fun _ _ _ h => h) (Or.inl ⟨by rfl, ?_⟩) (by exact hHeld) ?_
  rotate_left
  · intro w' hSw
    obtain ⟨_, ⟨z1, z2, z3, z4⟩, ⟨z5, z6, z7, z8⟩⟩ := hSw
    go_simp
    try (with_reducible rfl)
  try simp only [Act.put, List.setIfInBounds_toArray, List.set_cons_zero, List.set_cons_succ]
  clear hHeld
  refine wpAnyT_one (i := 4) rfl (by kernel_rfl) (by rfl) (fun K hK => ?_)
  go_simp
  refine (cut_calls (HU5.out _ (Ext.refl _ _).drew) huy c hc hly2).mono ?_
  rintro e w6 ⟨u1, rfl, r1, x6⟩
  have x6 := ext0 (Ext.refl Nope _).drew x6
  try go_simp
  refine hK.out _ _ ⟨x6, SK.out _ x6⟩ (fun hHeld => ?_)
  clear hK K
  try simp only [Act.put, List.setIfInBounds_toArray, List.set_cons_zero, List.set_cons_succ]
  clear hHeld
  refine wpAnyT_one (i := 7) rfl (by kernel_rfl) (by rfl) (fun K hK => ?_)
  go_simp
  refine (rcut_calls (HU5.out _ x6) huy c hc hly2).mono ?_
  rintro e w7 ⟨u2, rfl, r2, x7⟩
  have y7 := ext0 x6 x7
  have s1 := r1.reads.ext0 x7
  clear x6 x7 r1
  try go_simp
  refine hK.out _ _ ⟨y7, SK.out _ y7⟩ (fun hHeld => ?_)
  clear hK K
  try simp only [Act.put, List.setIfInBounds_toArray, List.set_cons_zero, List.set_cons_succ]
  clear hHeld
  refine wpAnyT_one (i := 8) rfl (by kernel_rfl) (by rfl) (fun K hK => ?_)
  go_simp
  refine (same_calls s1 r2.reads).mono ?_
  rintro e w8 ⟨rfl, x8⟩
  have y8 := ext0 y7 x8
  rw [decide_eq_true (rfl : cutR ys c = cutR ys c)]
  clear y7 x8 s1 r2
  try go_simp
  refine hK.out _ _ ⟨y8, SK.out _ y8⟩ (fun hHeld => ?_)
  clear hK K
  try simp only [Act.put, List.setIfInBounds_toArray, List.set_cons_zero, List.set_cons_succ]
  refine wpAnyT_takeD (i := 9) (d := some 26) (v := ?_) hO rfl rfl (by kernel_rfl) (fun _ _ _ h => h) (Or.inl ⟨by rfl, ?_⟩) (by exact hHeld) ?_
  rotate_left
  · intro w' hSw
    obtain ⟨_, ⟨z1, z2, z3, z4⟩, ⟨z5, z6, z7, z8⟩⟩ := hSw
    go_simp
    try (with_reducible rfl)
  try simp only [Act.put, List.setIfInBounds_toArray, List.set_cons_zero, List.set_cons_succ]
  refine wpAnyT_takeD (i := 10) (d := some 27) (v := ?_) hO rfl rfl (by kernel_rfl) (fun _ _ _ h => h) (Or.inl ⟨by rfl, ?_⟩) (by exact hHeld) ?_
  rotate_left
  · intro w' hSw
    obtain ⟨_, ⟨z1, z2, z3, z4⟩, ⟨z5, z6, z7, z8⟩⟩ := hSw
    go_simp
    try (with_reducible rfl)
  try simp only [Act.put, List.setIfInBounds_toArray, List.set_cons_zero, List.set_cons_succ]
  refine wpAnyT_takeD (i := 11) (d := some 28) (v := ?_) hO rfl rfl (by kernel_rfl) (fun _ _ _ h => h) (Or.inl ⟨by rfl, ?_⟩) (by exact hHeld) ?_
  rotate_left
  · intro w' hSw
    obtain ⟨_, ⟨z1, z2, z3, z4⟩, ⟨z5, z6, z7, z8⟩⟩ := hSw
    go_simp
    try (with_reducible rfl)
  try simp only [Act.put, List.setIfInBounds_toArray, List.set_cons_zero, List.set_cons_succ]
  refine wpAnyT_takeD (i := 12) (d := some 29) (v := ?_) hO rfl rfl (by kernel_rfl) (fun _ _ _ h => h) (Or.inl ⟨by rfl, ?_⟩) (by exact hHeld) ?_
  rotate_left
  · intro w' hSw
    obtain ⟨_, ⟨z1, z2, z3, z4⟩, ⟨z5, z6, z7, z8⟩⟩ := hSw
    go_simp
    try (with_reducible rfl)
  try simp only [Act.put, List.setIfInBounds_toArray, List.set_cons_zero, List.set_cons_succ]
  refine wpAnyT_takeD (i := 14) (d := some 31) (v := ?_) hO rfl rfl (by kernel_rfl) (fun _ _ _ h => h) (Or.inl ⟨by rfl, ?_⟩) (by exact hHeld) ?_
  rotate_left
  · intro w' hSw
    obtain ⟨_, ⟨z1, z2, z3, z4⟩, ⟨z5, z6, z7, z8⟩⟩ := hSw
    go_simp
    try (with_reducible rfl)
  try simp only [Act.put, List.setIfInBounds_toArray, List.set_cons_zero, List.set_cons_succ]
  refine wpAnyT_takeD (i := 15) (d := some 32) (v := ?_) hO rfl rfl (by kernel_rfl) (fun _ _ _ h => h) (Or.inl ⟨by rfl, ?_⟩) (by exact hHeld) ?_
  rotate_left
  · intro w' hSw
    obtain ⟨_, ⟨z1, z2, z3, z4⟩, ⟨z5, z6, z7, z8⟩⟩ := hSw
    go_simp
    try (with_reducible rfl)
  try simp only [Act.put, List.setIfInBounds_toArray, List.set_cons_zero, List.set_cons_succ]
  clear hHeld
  refine wpAnyT_one (i := 13) rfl (by kernel_rfl) (by rfl) (fun K hK => ?_)
  go_simp
  refine (cut_calls (HU5.out _ y8) huy nr hnr hly2).mono ?_
  rintro e w9 ⟨u3, rfl, r1, x6⟩
  have y9 := ext0 y8 x6
  clear x6
  try go_simp
  refine hK.out _ _ ⟨y9, SK.out _ y9⟩ (fun hHeld => ?_)
  clear hK K
  try simp only [Act.put, List.setIfInBounds_toArray, List.set_cons_zero, List.set_cons_succ]
  clear hHeld
  refine wpAnyT_one (i := 16) rfl (by kernel_rfl) (by rfl) (fun K hK => ?_)
  go_simp
  refine (rcut_calls (HU5.out _ y9) huy nr hnr hly2).mono ?_
  rintro e w10 ⟨u4, rfl, r2, x7⟩
  have y10 := ext0 y9 x7
  have s1 := r1.reads.ext0 x7
  clear y9 x7 r1
  try go_simp
  refine hK.out _ _ ⟨y10, SK.out _ y10⟩ (fun hHeld => ?_)
  clear hK K
  try simp only [Act.put, List.setIfInBounds_toArray, List.set_cons_zero, List.set_cons_succ]
  clear hHeld
  refine wpAnyT_one (i := 17) rfl (by kernel_rfl) (by rfl) (fun K hK => ?_)
  go_simp
  refine (same_calls s1 r2.reads).mono ?_
  rintro e w11 ⟨rfl, x8⟩
  have y11 := ext0 y10 x8
  rw [decide_eq_true (rfl : cutR ys nr = cutR ys nr)]
  clear y10 x8 s1 r2
  try go_simp
  refine hK.out _ _ ⟨y11, SK.out _ y11⟩ (fun hHeld => ?_)
  clear hK K
  try simp only [Act.put, List.setIfInBounds_toArray, List.set_cons_zero, List.set_cons_succ]
  clear hHeld
  refine wpAnyT_done (by kernel_rfl) ⟨by kernel_rfl, ?_⟩
  simp only [List.drop_succ_cons, List.drop_zero]
  go_wp2
  go_ret
  exact ⟨rfl, ext0 (e4.alloc _) y11⟩
end
end Go.Proofs.YtmmcadbkmfjcbaaDoor
