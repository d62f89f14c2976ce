/-
  abugidaref33.Write: the walk, where nothing is written.
-/
import Derived.Test.YtmmcadbkmfjcbaaDoorE6
namespace Go.Proofs.YtmmcadbkmfjcbaaDoor
open Go.RowKit
attribute [local go_sem] alloc_drewN setCell_drewN

theorem rwrite_zero {w : World} {base b : Nat} {rv : Value} {p : Ref} (c : R) (v : Value) (h : RefAt w base b rv p) (hw0 : p.w = 0) : Calls Tryd.prog 36 #[ptr b, c.val, v] w fun e w' => e = .returned (.int .i64 1) ∧ RefAt w' base b rv p ∧ Ext (Foot b rv) w w' := by
  have H2 := h.ext ((Ext.refl Nope w).alloc (.cells #[.int .i64 c.x, .int .i64 c.y, .int .i64 c.w, .int .i64 c.h] 31)) (fun _ _ z => z)
  have hnone := none_calls H2
  rw [decide_eq_true hw0] at hnone
  have HNO := toHid hnone
  have HH := toHid H2
  clear hnone hw0 h H2
  go_enter Tryd.func36, Tryd.ntmps36
  go_wp2_with (go_at_call 38; refine HNO.out.mono ?_; rintro e w' ⟨rfl, rfl⟩)
  go_ret
  exact ⟨rfl, HH.out, (Ext.refl _ _).alloc _⟩

set_option maxRecDepth 100000 in
set_option maxHeartbeats 2000000 in
theorem rwrite_out {w : World} {base b : Nat} {rv v : Value} {p : Ref} {xs : List Nat} {c : R} (h : RefAt w base b rv p) (ok : RefOK p) (hr : Reads w v xs) (_hu : U64 xs) (hc : c.i64) (_hl : xs.length ≤ 100000) (hw0 : ¬ p.w = 0) (hin : inB c p.w p.rows.length = false) :
    Calls Tryd.prog 36 #[ptr b, c.val, v] w fun e w' => e = .returned (.int .i64 1) ∧ RefAt w' base b rv p ∧ Ext (Foot b rv) w w' := by
  have HP := toHid h
  have HR := toHid hr
  obtain ⟨ra, rc, hrv, hrc1, hrc2, _⟩ := own_gen h.rows
  obtain ⟨rn, HRN⟩ : ∃ rn, Hid (p.rows.length = rn) := ⟨_, rfl⟩
  rw [HRN.out] at hrv
  have hrn64 : rn ≤ 64 := by have := ok.h; rw [HRN.out] at this; exact this
  have hpw64 := ok.w
  have HRV := toHid hrv
  have hpc : w.heap[b]? = some (.cells (refCells p (.slice ra rn rc)) 74 (0, 0)) := by have := h.cells; rw [hrv] at this; exact this
  have HPC := toHid hpc
  obtain ⟨av, cap, hv, _⟩ := hr
  obtain ⟨n, HN⟩ : ∃ n, Hid (xs.length = n) := ⟨_, rfl⟩
  rw [HN.out] at hv
  subst hv
  have hbw := lt_of_heap hpc
  have HC := toHid (fun (W' : World) => Within_calls c p.w rn W' hc (by omega) (by omega) (by omega) (by omega))
  rw [HRN.out] at hin
  rw [hin] at HC
  have hnone := none_calls (h.ext ((Ext.refl Nope w).alloc (.cells #[.int .i64 c.x, .int .i64 c.y, .int .i64 c.w, .int .i64 c.h] 31)) (fun _ _ z => z))
  rw [decide_eq_false hw0] at hnone
  have HNO := toHid hnone
  have SK : Hid (∀ w', Ext Nope (w.alloc (.cells #[.int .i64 c.x, .int .i64 c.y, .int .i64 c.w, .int .i64 c.h] 31)) w' → (w'.cell? ⟨w.heap.size, 0, none⟩ = some (.int .i64 c.x) ∧ w'.cell? ⟨w.heap.size, 1, none⟩ = some (.int .i64 c.y) ∧ w'.cell? ⟨w.heap.size, 2, none⟩ = some (.int .i64 c.w) ∧ w'.cell? ⟨w.heap.size, 3, none⟩ = some (.int .i64 c.h)) ∧ (w'.cell? ⟨b, 0, none⟩ = some (.int .i64 (p.w : Int)) ∧ w'.cell? ⟨b, 1, none⟩ = some (.slice ra rn rc))) := fun w' e => by
    have kc := (e.block w.heap.size (by simp) (fun z => z)).trans (heap_alloc_new w _)
    have kb := (e.block b (by simp; omega) (fun z => z)).trans ((heap_alloc_old w _ b hbw).trans HPC.out)
    obtain ⟨q0, q1, q2, q3⟩ := r_cells kc
    exact ⟨⟨q0, q1, q2, q3⟩, cell_of_blk kb 0, cell_of_blk kb 1⟩
  clear h hrv hpc hin hrc1 hrc2 ok hnone hw0
  go_enter Tryd.func36, Tryd.ntmps36
  go_wp2_with (go_at_call 38; refine HNO.out.mono ?_; rintro e w' ⟨rfl, rfl⟩)
  refine wp_region_head 11 (fun w' => Ext Nope (w.alloc (.cells #[.int .i64 c.x, .int .i64 c.y, .int .i64 c.w, .int .i64 c.h] 31)) w' ∧ (w'.cell? ⟨w.heap.size, 0, none⟩ = some (.int .i64 c.x) ∧ w'.cell? ⟨w.heap.size, 1, none⟩ = some (.int .i64 c.y) ∧ w'.cell? ⟨w.heap.size, 2, none⟩ = some (.int .i64 c.w) ∧ w'.cell? ⟨w.heap.size, 3, none⟩ = some (.int .i64 c.h)) ∧ (w'.cell? ⟨b, 0, none⟩ = some (.int .i64 (p.w : Int)) ∧ w'.cell? ⟨b, 1, none⟩ = some (.slice ra rn rc))) (by kernel_rfl) (by kernel_rfl) ⟨(Ext.refl _ _).drew, SK.out _ (Ext.refl _ _).drew⟩ (fun hO hHeld => ?_)
  refine wpAnyT_takeD (i := 0) (d := some 17) (v := ?_) hO rfl rfl (by kernel_rfl) (fun _ _ _ h => h) (Or.inl ⟨by rfl, ?_⟩) (by exact hHeld) ?_
  rotate_left
  · intro w' hSw
    obtain ⟨_, ⟨z1, z2, z3, z4⟩, ⟨z5, z6⟩⟩ := hSw
    go_simp
    try (with_reducible rfl)
  try simp only [Act.put, List.setIfInBounds_toArray, List.set_cons_zero, List.set_cons_succ]
  refine wpAnyT_takeD (i := 1) (d := some 18) (v := ?_) hO rfl rfl (by kernel_rfl) (fun _ _ _ h => h) (Or.inl ⟨by rfl, ?_⟩) (by exact hHeld) ?_
  rotate_left
  · intro w' hSw
    obtain ⟨_, ⟨z1, z2, z3, z4⟩, ⟨z5, z6⟩⟩ := hSw
    go_simp
    try (with_reducible rfl)
  try simp only [Act.put, List.setIfInBounds_toArray, List.set_cons_zero, List.set_cons_succ]
  refine wpAnyT_takeD (i := 2) (d := some 19) (v := ?_) hO rfl rfl (by kernel_rfl) (fun _ _ _ h => h) (Or.inl ⟨by rfl, ?_⟩) (by exact hHeld) ?_
  rotate_left
  · intro w' hSw
    obtain ⟨_, ⟨z1, z2, z3, z4⟩, ⟨z5, z6⟩⟩ := hSw
    go_simp
    try (with_reducible rfl)
  try simp only [Act.put, List.setIfInBounds_toArray, List.set_cons_zero, List.set_cons_succ]
  refine wpAnyT_takeD (i := 3) (d := some 20) (v := ?_) hO rfl rfl (by kernel_rfl) (fun _ _ _ h => h) (Or.inl ⟨by rfl, ?_⟩) (by exact hHeld) ?_
  rotate_left
  · intro w' hSw
    obtain ⟨_, ⟨z1, z2, z3, z4⟩, ⟨z5, z6⟩⟩ := hSw
    go_simp
    try (with_reducible rfl)
  try simp only [Act.put, List.setIfInBounds_toArray, List.set_cons_zero, List.set_cons_succ]
  refine wpAnyT_takeD (i := 4) (d := some 21) (v := ?_) hO rfl rfl (by kernel_rfl) (fun _ _ _ h => h) (Or.inl ⟨by rfl, ?_⟩) (by exact hHeld) ?_
  rotate_left
  · intro w' hSw
    obtain ⟨_, ⟨z1, z2, z3, z4⟩, ⟨z5, z6⟩⟩ := hSw
    go_simp
    try (with_reducible rfl)
  try simp only [Act.put, List.setIfInBounds_toArray, List.set_cons_zero, List.set_cons_succ]
  refine wpAnyT_takeD (i := 5) (d := some 22) (v := ?_) hO rfl rfl (by kernel_rfl) (fun _ _ _ h => h) (Or.inl ⟨by rfl, ?_⟩) (by exact hHeld) ?_
  rotate_left
  · intro w' hSw
    obtain ⟨_, ⟨z1, z2, z3, z4⟩, ⟨z5, z6⟩⟩ := hSw
    go_simp
    try (with_reducible rfl)
  try simp only [Act.put, List.setIfInBounds_toArray, List.set_cons_zero, List.set_cons_succ]
  refine wpAnyT_takeD (i := 6) (d := some 23) (v := ?_) hO rfl rfl (by kernel_rfl) (fun _ _ _ h => h) (Or.inl ⟨by rfl, ?_⟩) (by exact hHeld) ?_
  rotate_left
  · intro w' hSw
    obtain ⟨_, ⟨z1, z2, z3, z4⟩, ⟨z5, z6⟩⟩ := hSw
    go_simp
    try (with_reducible rfl)
  try simp only [Act.put, List.setIfInBounds_toArray, List.set_cons_zero, List.set_cons_succ]
  refine wpAnyT_takeD (i := 7) (d := some 24) (v := ?_) hO rfl rfl (by kernel_rfl) (fun _ _ _ h => h) (Or.inl ⟨by rfl, ?_⟩) (by exact hHeld) ?_
  rotate_left
  · intro w' hSw
    obtain ⟨_, ⟨z1, z2, z3, z4⟩, ⟨z5, z6⟩⟩ := hSw
    go_simp
    try (with_reducible rfl)
  try simp only [Act.put, List.setIfInBounds_toArray, List.set_cons_zero, List.set_cons_succ]
  refine wpAnyT_takeD (i := 8) (d := some 25) (v := ?_) hO rfl rfl (by kernel_rfl) (fun _ _ _ h => h) (Or.inl ⟨by rfl, ?_⟩) (by exact hHeld) ?_
  rotate_left
  · intro w' hSw
    obtain ⟨_, ⟨z1, z2, z3, z4⟩, ⟨z5, z6⟩⟩ := hSw
    go_simp
    try (with_reducible rfl)
  try simp only [Act.put, List.setIfInBounds_toArray, List.set_cons_zero, List.set_cons_succ]
  refine wpAnyT_takeD (i := 9) (d := some 26) (v := ?_) hO rfl rfl (by kernel_rfl) (fun _ _ _ h => h) (Or.inl ⟨by rfl, ?_⟩) (by exact hHeld) ?_
  rotate_left
  · intro w' hSw
    obtain ⟨_, ⟨z1, z2, z3, z4⟩, ⟨z5, z6⟩⟩ := hSw
    go_simp
    try (with_reducible rfl)
  try simp only [Act.put, List.setIfInBounds_toArray, List.set_cons_zero, List.set_cons_succ]
  clear hHeld
  refine wpAnyT_one (i := 10) rfl (by kernel_rfl) (by rfl) (fun K hK => ?_)
  go_simp
  refine (HC.out _).mono ?_
  rintro e w5 ⟨rfl, e5⟩
  have x1 : Ext Nope (w.alloc (.cells #[.int .i64 c.x, .int .i64 c.y, .int .i64 c.w, .int .i64 c.h] 31)) w5 := ext0 (Ext.refl _ _).drew e5
  clear e5
  try go_simp
  refine hK.out _ _ ⟨x1, SK.out _ x1⟩ (fun _ => ?_)
  clear hK K
  try simp only [Act.put, List.setIfInBounds_toArray, List.set_cons_zero, List.set_cons_succ]
  refine wpAnyT_done (by kernel_rfl) ⟨by kernel_rfl, ?_⟩
  simp only [List.drop_succ_cons, List.drop_zero]
  obtain ⟨⟨z1, z2, z3, z4⟩, ⟨z5, z6⟩⟩ := SK.out _ x1
  have X1 : Ext Nope w w5 := ext0 ((Ext.refl _ _).alloc _) x1
  go_wp2
  go_ret
  exact ⟨rfl, HP.out.ext X1 (fun _ _ z => z), X1.mono (fun _ z => z.elim)⟩

set_option maxRecDepth 100000 in
set_option maxHeartbeats 2000000 in
theorem rwrite_len {w : World} {base b : Nat} {rv v : Value} {p : Ref} {xs : List Nat} {c : R} (h : RefAt w base b rv p) (ok : RefOK p) (hr : Reads w v xs) (_hu : U64 xs) (hc : c.i64) (_hl : xs.length ≤ 100000) (hw0 : ¬ p.w = 0) (hin : inB c p.w p.rows.length = true) (hlen : (xs.length : Int) ≠ c.h) :
    Calls Tryd.prog 36 #[ptr b, c.val, v] w fun e w' => e = .returned (.int .i64 1) ∧ RefAt w' base b rv p ∧ Ext (Foot b rv) w w' := by
  have HP := toHid h
  have HR := toHid hr
  obtain ⟨ra, rc, hrv, hrc1, hrc2, _⟩ := own_gen h.rows
  obtain ⟨rn, HRN⟩ : ∃ rn, Hid (p.rows.length = rn) := ⟨_, rfl⟩
  rw [HRN.out] at hrv
  have hrn64 : rn ≤ 64 := by have := ok.h; rw [HRN.out] at this; exact this
  have hpw64 := ok.w
  have HRV := toHid hrv
  have hpc : w.heap[b]? = some (.cells (refCells p (.slice ra rn rc)) 74 (0, 0)) := by have := h.cells; rw [hrv] at this; exact this
  have HPC := toHid hpc
  obtain ⟨av, cap, hv, _⟩ := hr
  obtain ⟨n, HN⟩ : ∃ n, Hid (xs.length = n) := ⟨_, rfl⟩
  rw [HN.out] at hv
  subst hv
  have hbw := lt_of_heap hpc
  have HC := toHid (fun (W' : World) => Within_calls c p.w rn W' hc (by omega) (by omega) (by omega) (by omega))
  rw [HRN.out] at hin
  rw [hin] at HC
  have hnone := none_calls (h.ext ((Ext.refl Nope w).alloc (.cells #[.int .i64 c.x, .int .i64 c.y, .int .i64 c.w, .int .i64 c.h] 31)) (fun _ _ z => z))
  rw [decide_eq_false hw0] at hnone
  have HNO := toHid hnone
  have SK : Hid (∀ w', Ext Nope (w.alloc (.cells #[.int .i64 c.x, .int .i64 c.y, .int .i64 c.w, .int .i64 c.h] 31)) w' → (w'.cell? ⟨w.heap.size, 0, none⟩ = some (.int .i64 c.x) ∧ w'.cell? ⟨w.heap.size, 1, none⟩ = some (.int .i64 c.y) ∧ w'.cell? ⟨w.heap.size, 2, none⟩ = some (.int .i64 c.w) ∧ w'.cell? ⟨w.heap.size, 3, none⟩ = some (.int .i64 c.h)) ∧ (w'.cell? ⟨b, 0, none⟩ = some (.int .i64 (p.w : Int)) ∧ w'.cell? ⟨b, 1, none⟩ = some (.slice ra rn rc))) := fun w' e => by
    have kc := (e.block w.heap.size (by simp) (fun z => z)).trans (heap_alloc_new w _)
    have kb := (e.block b (by simp; omega) (fun z => z)).trans ((heap_alloc_old w _ b hbw).trans HPC.out)
    obtain ⟨q0, q1, q2, q3⟩ := r_cells kc
    exact ⟨⟨q0, q1, q2, q3⟩, cell_of_blk kb 0, cell_of_blk kb 1⟩
  rw [HN.out] at hlen
  have hq1 : ((n : Int) == c.h) = false := by simpa using hlen
  have hq2 : ((n : Int) != c.h) = true := by simpa using hlen
  clear hlen
  clear h hrv hpc hin hrc1 hrc2 ok hnone hw0
  go_enter Tryd.func36, Tryd.ntmps36
  go_wp2_with (go_at_call 38; refine HNO.out.mono ?_; rintro e w' ⟨rfl, rfl⟩)
  refine wp_region_head 11 (fun w' => Ext Nope (w.alloc (.cells #[.int .i64 c.x, .int .i64 c.y, .int .i64 c.w, .int .i64 c.h] 31)) w' ∧ (w'.cell? ⟨w.heap.size, 0, none⟩ = some (.int .i64 c.x) ∧ w'.cell? ⟨w.heap.size, 1, none⟩ = some (.int .i64 c.y) ∧ w'.cell? ⟨w.heap.size, 2, none⟩ = some (.int .i64 c.w) ∧ w'.cell? ⟨w.heap.size, 3, none⟩ = some (.int .i64 c.h)) ∧ (w'.cell? ⟨b, 0, none⟩ = some (.int .i64 (p.w : Int)) ∧ w'.cell? ⟨b, 1, none⟩ = some (.slice ra rn rc))) (by kernel_rfl) (by kernel_rfl) ⟨(Ext.refl _ _).drew, SK.out _ (Ext.refl _ _).drew⟩ (fun hO hHeld => ?_)
  refine wpAnyT_takeD (i := 0) (d := some 17) (v := ?_) hO rfl rfl (by kernel_rfl) (fun _ _ _ h => h) (Or.inl ⟨by rfl, ?_⟩) (by exact hHeld) ?_
  rotate_left
  · intro w' hSw
    obtain ⟨_, ⟨z1, z2, z3, z4⟩, ⟨z5, z6⟩⟩ := hSw
    go_simp
    try (with_reducible rfl)
  try simp only [Act.put, List.setIfInBounds_toArray, List.set_cons_zero, List.set_cons_succ]
  refine wpAnyT_takeD (i := 1) (d := some 18) (v := ?_) hO rfl rfl (by kernel_rfl) (fun _ _ _ h => h) (Or.inl ⟨by rfl, ?_⟩) (by exact hHeld) ?_
  rotate_left
  · intro w' hSw
    obtain ⟨_, ⟨z1, z2, z3, z4⟩, ⟨z5, z6⟩⟩ := hSw
    go_simp
    try (with_reducible rfl)
  try simp only [Act.put, List.setIfInBounds_toArray, List.set_cons_zero, List.set_cons_succ]
  refine wpAnyT_takeD (i := 2) (d := some 19) (v := ?_) hO rfl rfl (by kernel_rfl) (fun _ _ _ h => h) (Or.inl ⟨by rfl, ?_⟩) (by exact hHeld) ?_
  rotate_left
  · intro w' hSw
    obtain ⟨_, ⟨z1, z2, z3, z4⟩, ⟨z5, z6⟩⟩ := hSw
    go_simp
    try (with_reducible rfl)
  try simp only [Act.put, List.setIfInBounds_toArray, List.set_cons_zero, List.set_cons_succ]
  refine wpAnyT_takeD (i := 3) (d := some 20) (v := ?_) hO rfl rfl (by kernel_rfl) (fun _ _ _ h => h) (Or.inl ⟨by rfl, ?_⟩) (by exact hHeld) ?_
  rotate_left
  · intro w' hSw
    obtain ⟨_, ⟨z1, z2, z3, z4⟩, ⟨z5, z6⟩⟩ := hSw
    go_simp
    try (with_reducible rfl)
  try simp only [Act.put, List.setIfInBounds_toArray, List.set_cons_zero, List.set_cons_succ]
  refine wpAnyT_takeD (i := 4) (d := some 21) (v := ?_) hO rfl rfl (by kernel_rfl) (fun _ _ _ h => h) (Or.inl ⟨by rfl, ?_⟩) (by exact hHeld) ?_
  rotate_left
  · intro w' hSw
    obtain ⟨_, ⟨z1, z2, z3, z4⟩, ⟨z5, z6⟩⟩ := hSw
    go_simp
    try (with_reducible rfl)
  try simp only [Act.put, List.setIfInBounds_toArray, List.set_cons_zero, List.set_cons_succ]
  refine wpAnyT_takeD (i := 5) (d := some 22) (v := ?_) hO rfl rfl (by kernel_rfl) (fun _ _ _ h => h) (Or.inl ⟨by rfl, ?_⟩) (by exact hHeld) ?_
  rotate_left
  · intro w' hSw
    obtain ⟨_, ⟨z1, z2, z3, z4⟩, ⟨z5, z6⟩⟩ := hSw
    go_simp
    try (with_reducible rfl)
  try simp only [Act.put, List.setIfInBounds_toArray, List.set_cons_zero, List.set_cons_succ]
  refine wpAnyT_takeD (i := 6) (d := some 23) (v := ?_) hO rfl rfl (by kernel_rfl) (fun _ _ _ h => h) (Or.inl ⟨by rfl, ?_⟩) (by exact hHeld) ?_
  rotate_left
  · intro w' hSw
    obtain ⟨_, ⟨z1, z2, z3, z4⟩, ⟨z5, z6⟩⟩ := hSw
    go_simp
    try (with_reducible rfl)
  try simp only [Act.put, List.setIfInBounds_toArray, List.set_cons_zero, List.set_cons_succ]
  refine wpAnyT_takeD (i := 7) (d := some 24) (v := ?_) hO rfl rfl (by kernel_rfl) (fun _ _ _ h => h) (Or.inl ⟨by rfl, ?_⟩) (by exact hHeld) ?_
  rotate_left
  · intro w' hSw
    obtain ⟨_, ⟨z1, z2, z3, z4⟩, ⟨z5, z6⟩⟩ := hSw
    go_simp
    try (with_reducible rfl)
  try simp only [Act.put, List.setIfInBounds_toArray, List.set_cons_zero, List.set_cons_succ]
  refine wpAnyT_takeD (i := 8) (d := some 25) (v := ?_) hO rfl rfl (by kernel_rfl) (fun _ _ _ h => h) (Or.inl ⟨by rfl, ?_⟩) (by exact hHeld) ?_
  rotate_left
  · intro w' hSw
    obtain ⟨_, ⟨z1, z2, z3, z4⟩, ⟨z5, z6⟩⟩ := hSw
    go_simp
    try (with_reducible rfl)
  try simp only [Act.put, List.setIfInBounds_toArray, List.set_cons_zero, List.set_cons_succ]
  refine wpAnyT_takeD (i := 9) (d := some 26) (v := ?_) hO rfl rfl (by kernel_rfl) (fun _ _ _ h => h) (Or.inl ⟨by rfl, ?_⟩) (by exact hHeld) ?_
  rotate_left
  · intro w' hSw
    obtain ⟨_, ⟨z1, z2, z3, z4⟩, ⟨z5, z6⟩⟩ := hSw
    go_simp
    try (with_reducible rfl)
  try simp only [Act.put, List.setIfInBounds_toArray, List.set_cons_zero, List.set_cons_succ]
  clear hHeld
  refine wpAnyT_one (i := 10) rfl (by kernel_rfl) (by rfl) (fun K hK => ?_)
  go_simp
  refine (HC.out _).mono ?_
  rintro e w5 ⟨rfl, e5⟩
  have x1 : Ext Nope (w.alloc (.cells #[.int .i64 c.x, .int .i64 c.y, .int .i64 c.w, .int .i64 c.h] 31)) w5 := ext0 (Ext.refl _ _).drew e5
  clear e5
  try go_simp
  refine hK.out _ _ ⟨x1, SK.out _ x1⟩ (fun _ => ?_)
  clear hK K
  try simp only [Act.put, List.setIfInBounds_toArray, List.set_cons_zero, List.set_cons_succ]
  refine wpAnyT_done (by kernel_rfl) ⟨by kernel_rfl, ?_⟩
  simp only [List.drop_succ_cons, List.drop_zero]
  obtain ⟨⟨z1, z2, z3, z4⟩, ⟨z5, z6⟩⟩ := SK.out _ x1
  have X1 : Ext Nope w w5 := ext0 ((Ext.refl _ _).alloc _) x1
  go_wp2
  go_ret
  exact ⟨rfl, HP.out.ext X1 (fun _ _ z => z), X1.mono (fun _ z => z.elim)⟩
end Go.Proofs.YtmmcadbkmfjcbaaDoor
