/-
  Case.sizes, Case.rows, shows: the walks.
-/
import Derived.Test.YtmmcadbkmfjcbaaDoorF1
import Derived.Test.YtmmcadbkmfjcbaaDoorU0
import Derived.Test.YtmmcadbkmfjcbaaDoorP1
import Derived.Test.YtmmcadbkmfjcbaaDoorK3
import Derived.BigQuiet
namespace Go.Proofs.YtmmcadbkmfjcbaaDoor
open Go.RowKit
attribute [local go_sem] alloc_drewN setCell_drewN

def sizeW (a : Int) : Nat := (1 + a % 64).toNat
theorem sizeW_eq {a : Int} (_h : 0 ≤ a ∧ a ≤ 255) : 1 + a % 64 = (sizeW a : Int) ∧ 1 ≤ sizeW a ∧ sizeW a ≤ 64 := by unfold sizeW; omega
set_option maxHeartbeats 1000000 in
/-- abugidalaw33.sizes -/
theorem sizes_calls (a b m : Int) (v1 v2 : Value) (w : World) (ha : 0 ≤ a ∧ a ≤ 255) (hb : 0 ≤ b ∧ b ≤ 255) : Calls Tryd.prog 27 #[.agg #[.int .u8 a, .int .u8 b, v1, v2, .int .u8 m]] w fun e w' => e = .returned (.tuple #[.int .i64 (sizeW a), .int .i64 (sizeW b)]) ∧ Ext Nope w w' := by
  obtain ⟨hW, hW1⟩ := sizeW_eq ha
  obtain ⟨hH, hH1⟩ := sizeW_eq hb
  generalize sizeW a = W at *
  generalize sizeW b = H at *
  have t0 : a.tmod 64 = (W : Int) - 1 := by rw [Int.tmod_eq_emod_of_nonneg ha.1]; omega
  have t1 : b.tmod 64 = (H : Int) - 1 := by rw [Int.tmod_eq_emod_of_nonneg hb.1]; omega
  have t2 : IntKind.i64.wrap (1 + ((W : Int) - 1)) = (W : Int) := by rw [show 1 + ((W : Int) - 1) = (W : Int) by omega]; exact IntWalk.i64_in _ (by omega)
  have t3 : IntKind.i64.wrap (1 + ((H : Int) - 1)) = (H : Int) := by rw [show 1 + ((H : Int) - 1) = (H : Int) by omega]; exact IntWalk.i64_in _ (by omega)
  have p0 : IntKind.i64.wrap a = a := IntWalk.i64_in _ (by omega)
  have p1 : IntKind.i64.wrap b = b := IntWalk.i64_in _ (by omega)
  clear hW hH
  go_enter Tryd.func27, Tryd.ntmps27
  go_wp2
  go_quiet (fail)
  go_wp2
  go_ret2
  exact ⟨rfl, ((Ext.refl _ _).alloc _).drewN _⟩

/-- Two new lists of rows. -/
def RowsOf (w : World) (W H : Nat) (xs ys : List Nat) (e : Ending) (w' : World) : Prop := ∃ u1 u2, e = .returned (.tuple #[u1, u2]) ∧ RowsAt w' w.heap.size u1 (madeA xs W H) ∧ RowsAt w' w.heap.size u2 (madeA ys W H) ∧ Ext Nope w w'
set_option maxHeartbeats 2000000 in
/-- abugidalaw33.rows -/
theorem rows_calls {v1 v2 : Value} {xs ys : List Nat} (a b m : Int) (w : World) (ha : 0 ≤ a ∧ a ≤ 255) (hb : 0 ≤ b ∧ b ≤ 255) (hr1 : Reads w v1 xs) (hu1 : U64 xs) (hr2 : Reads w v2 ys) (hu2 : U64 ys) : Calls Tryd.prog 28 #[.agg #[.int .u8 a, .int .u8 b, v1, v2, .int .u8 m]] w (RowsOf w (sizeW a) (sizeW b) xs ys) := by
  have HR := toHid (show _ ∧ _ from ⟨hr1, hr2⟩)
  have hl1 : xs.length ≤ 9223372036854775807 := by obtain ⟨_, _, _, h1, h2, _⟩ := hr1; omega
  have hl2 : ys.length ≤ 9223372036854775807 := by obtain ⟨_, _, _, h1, h2, _⟩ := hr2; omega
  have HL := toHid (show _ ∧ _ from ⟨hl1, hl2⟩)
  obtain ⟨a1, c1, hv1, _⟩ := hr1
  obtain ⟨a2, c2, hv2, _⟩ := hr2
  obtain ⟨l1, HL1⟩ : ∃ l, Hid (xs.length = l) := ⟨_, rfl⟩
  obtain ⟨l2, HL2⟩ : ∃ l, Hid (ys.length = l) := ⟨_, rfl⟩
  rw [HL1.out] at hv1
  rw [HL2.out] at hv2
  subst hv1 hv2
  have HS := toHid (fun W' => sizes_calls a b m (.slice a1 l1 c1) (.slice a2 l2 c2) W' ha hb)
  obtain ⟨_, hW1⟩ := sizeW_eq ha
  obtain ⟨_, hH1⟩ := sizeW_eq hb
  generalize sizeW a = W at *
  generalize sizeW b = H at *
  clear hl1 hl2
  go_enter Tryd.func28, Tryd.ntmps28
  go_wp2_with fail
  refine (HS.out _).mono ?_
  rintro e w1 ⟨rfl, x1⟩
  have e1 : Ext Nope w w1 := ext0 ((Ext.refl _ _).alloc _) x1
  have k1 := (x1.block w.heap.size (by simp) (fun z => z)).trans (heap_alloc_new w (.cells #[.int .u8 a, .int .u8 b, .slice a1 l1 c1, .slice a2 l2 c2, .int .u8 m] 53))
  clear x1
  go_upto_region 2 with fail
  have SK : Hid (∀ w', Ext Nope w1 w' → (w'.cell? ⟨w.heap.size, 2, none⟩ = some (.slice a1 l1 c1) ∧ w'.cell? ⟨w.heap.size, 3, none⟩ = some (.slice a2 l2 c2))) := fun w' e => by
    have kk := (e.block _ (lt_of_heap k1) (fun z => z)).trans k1
    exact ⟨cell_of_blk kk 2, cell_of_blk kk 3⟩
  have HE1 := toHid e1
  clear k1 e1
  refine wp_region_head 12 (fun w' => (w'.cell? ⟨w.heap.size, 2, none⟩ = some (.slice a1 l1 c1) ∧ w'.cell? ⟨w.heap.size, 3, none⟩ = some (.slice a2 l2 c2))) (by kernel_rfl) (by kernel_rfl) (SK.out _ (Ext.refl _ _).drew) (fun hO hHeld => ?_)
  refine wpAnyT_takeD (i := 0) (d := some 11) (v := ?_) hO rfl rfl (by kernel_rfl) (fun _ _ _ h => h) (Or.inl ⟨by rfl, ?_⟩) (by exact hHeld) ?_
  rotate_left
  · intro w' hSw
    obtain ⟨z1, z2⟩ := hSw
    go_simp
    try (with_reducible rfl)
  try simp only [Act.put, List.setIfInBounds_toArray, List.set_cons_zero, List.set_cons_succ]
  refine wpAnyT_takeD (i := 1) (d := some 12) (v := ?_) hO rfl rfl (by kernel_rfl) (fun _ _ _ h => h) (Or.inl ⟨by rfl, ?_⟩) (by exact hHeld) ?_
  rotate_left
  · intro w' hSw
    obtain ⟨z1, z2⟩ := hSw
    go_simp
    try (with_reducible rfl)
  try simp only [Act.put, List.setIfInBounds_toArray, List.set_cons_zero, List.set_cons_succ]
  refine wpAnyT_takeD (i := 2) (d := some 13) (v := ?_) hO rfl rfl (by kernel_rfl) (fun _ _ _ h => h) (Or.inl ⟨by rfl, ?_⟩) (by exact hHeld) ?_
  rotate_left
  · intro w' hSw
    obtain ⟨z1, z2⟩ := hSw
    go_simp
    try (with_reducible rfl)
  try simp only [Act.put, List.setIfInBounds_toArray, List.set_cons_zero, List.set_cons_succ]
  refine wpAnyT_takeD (i := 3) (d := some 14) (v := ?_) hO rfl rfl (by kernel_rfl) (fun _ _ _ h => h) (Or.inl ⟨by rfl, ?_⟩) (by exact hHeld) ?_
  rotate_left
  · intro w' hSw
    obtain ⟨z1, z2⟩ := hSw
    go_simp
    try (with_reducible rfl)
  try simp only [Act.put, List.setIfInBounds_toArray, List.set_cons_zero, List.set_cons_succ]
  refine wpAnyT_takeD (i := 4) (d := some 15) (v := ?_) hO rfl rfl (by kernel_rfl) (fun _ _ _ h => h) (Or.inl ⟨by rfl, ?_⟩) (by exact hHeld) ?_
  rotate_left
  · intro w' hSw
    obtain ⟨z1, z2⟩ := hSw
    go_simp
    try (with_reducible rfl)
  try simp only [Act.put, List.setIfInBounds_toArray, List.set_cons_zero, List.set_cons_succ]
  refine wpAnyT_takeD (i := 6) (d := some 17) (v := ?_) hO rfl rfl (by kernel_rfl) (fun _ _ _ h => h) (Or.inl ⟨by rfl, ?_⟩) (by exact hHeld) ?_
  rotate_left
  · intro w' hSw
    obtain ⟨z1, z2⟩ := hSw
    go_simp
    try (with_reducible rfl)
  try simp only [Act.put, List.setIfInBounds_toArray, List.set_cons_zero, List.set_cons_succ]
  refine wpAnyT_takeD (i := 7) (d := some 18) (v := ?_) hO rfl rfl (by kernel_rfl) (fun _ _ _ h => h) (Or.inl ⟨by rfl, ?_⟩) (by exact hHeld) ?_
  rotate_left
  · intro w' hSw
    obtain ⟨z1, z2⟩ := hSw
    go_simp
    try (with_reducible rfl)
  try simp only [Act.put, List.setIfInBounds_toArray, List.set_cons_zero, List.set_cons_succ]
  refine wpAnyT_takeD (i := 8) (d := some 19) (v := ?_) hO rfl rfl (by kernel_rfl) (fun _ _ _ h => h) (Or.inl ⟨by rfl, ?_⟩) (by exact hHeld) ?_
  rotate_left
  · intro w' hSw
    obtain ⟨z1, z2⟩ := hSw
    go_simp
    try (with_reducible rfl)
  try simp only [Act.put, List.setIfInBounds_toArray, List.set_cons_zero, List.set_cons_succ]
  refine wpAnyT_takeD (i := 9) (d := some 20) (v := ?_) hO rfl rfl (by kernel_rfl) (fun _ _ _ h => h) (Or.inl ⟨by rfl, ?_⟩) (by exact hHeld) ?_
  rotate_left
  · intro w' hSw
    obtain ⟨z1, z2⟩ := hSw
    go_simp
    try (with_reducible rfl)
  try simp only [Act.put, List.setIfInBounds_toArray, List.set_cons_zero, List.set_cons_succ]
  refine wpAnyT_takeD (i := 10) (d := some 21) (v := ?_) hO rfl rfl (by kernel_rfl) (fun _ _ _ h => h) (Or.inl ⟨by rfl, ?_⟩) (by exact hHeld) ?_
  rotate_left
  · intro w' hSw
    obtain ⟨z1, z2⟩ := hSw
    go_simp
    try (with_reducible rfl)
  try simp only [Act.put, List.setIfInBounds_toArray, List.set_cons_zero, List.set_cons_succ]
  clear hHeld
  refine wpAnyT_one (i := 5) rfl (by kernel_rfl) (by rfl) (fun K hK => ?_)
  go_simp
  refine (made_calls ((HR.out.1.ext0 HE1.out).ext0 (Ext.refl Nope _).drew) hu1 W H hW1.1 hW1.2 hH1.1 (by omega) HL.out.1).mono ?_
  rintro e w2 ⟨u1, rfl, r1, x2⟩
  have y2 := ext0 (Ext.refl Nope w1).drew x2
  try go_simp
  refine hK.out _ _ (SK.out _ y2) (fun hHeld => ?_)
  clear hK K hHeld
  try simp only [Act.put, List.setIfInBounds_toArray, List.set_cons_zero, List.set_cons_succ]
  refine wpAnyT_one (i := 11) rfl (by kernel_rfl) (by rfl) (fun K hK => ?_)
  go_simp
  refine (made_calls ((HR.out.2.ext0 HE1.out).ext0 y2) hu2 W H hW1.1 hW1.2 hH1.1 (by omega) HL.out.2).mono ?_
  rintro e w3 ⟨u2, rfl, r2, x3⟩
  have y3 := ext0 y2 x3
  have HF := toHid (show RowsAt w3 w.heap.size u1 (madeA xs W H) ∧ RowsAt w3 w.heap.size u2 (madeA ys W H) ∧ Ext Nope w w3 from ⟨own_base (own_ext r1 x3 (fun _ _ z => z)) (fun g hg => by have := (World.ownsRow.lt r1 g hg).1; have := HE1.out.size; simp at *; omega), own_base r2 (fun g hg => by have := (World.ownsRow.lt r2 g hg).1; have := HE1.out.size; have := y2.size; omega), ext0 HE1.out y3⟩)
  clear r1 r2 x2 x3
  try go_simp
  refine hK.out _ _ (SK.out _ y3) (fun hHeld => ?_)
  clear hK K hHeld
  try simp only [Act.put, List.setIfInBounds_toArray, List.set_cons_zero, List.set_cons_succ]
  refine wpAnyT_done (by kernel_rfl) ⟨by kernel_rfl, ?_⟩
  simp only [List.drop_succ_cons, List.drop_zero]
  clear y2 y3
  go_wp2
  go_ret2
  exact ⟨_, _, rfl, HF.out.1, HF.out.2.1, HF.out.2.2⟩
end Go.Proofs.YtmmcadbkmfjcbaaDoor
