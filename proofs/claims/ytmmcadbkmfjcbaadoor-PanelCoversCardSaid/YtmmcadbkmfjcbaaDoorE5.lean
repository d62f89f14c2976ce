/-
  panel.Write: the walk, where the rectangle fits.
-/
import Derived.Test.YtmmcadbkmfjcbaaDoorE4
import Derived.StillTailTactics
namespace Go.Proofs.YtmmcadbkmfjcbaaDoor
open Go.RowKit
attribute [local go_sem] alloc_drewN setCell_drewN

set_option maxRecDepth 100000 in
set_option maxHeartbeats 2000000 in
theorem write_over {w : World} {base b : Nat} {rv v : Value} {p : Pan} {xs : List Nat} {c : R} (h : PanAt w base b rv p) (ok : PanOK p) (hr : Reads w v xs) (hu : U64 xs) (hc : c.i64) (hl : xs.length ≤ 100000) (hin : inB c p.w p.rows.length = true) (hlen : (xs.length : Int) = c.h) (hall : allS c.w.toNat xs = false) :
    Calls Tryd.prog 30 #[ptr b, c.val, v] w fun e w' => e = .returned (.int .i64 1) ∧ PanAt w' base b rv p ∧ Ext (Foot b rv) w w' := by
  have HP := toHid h
  have HR := toHid hr
  obtain ⟨ra, rc, hrv, hrc1, hrc2, _⟩ := own_gen h.rows
  obtain ⟨rn, HRN⟩ : ∃ rn, Hid (p.rows.length = rn) := ⟨_, rfl⟩
  rw [HRN.out] at hrv
  have hrn64 : rn ≤ 64 := by have := ok.h; rw [HRN.out] at this; exact this
  have hpw64 := ok.w
  have HRV := toHid hrv
  have hpc : w.heap[b]? = some (.cells (panCells p (.slice ra rn rc)) 70 (0, 0)) := by have := h.cells; rw [hrv] at this; exact this
  have HPC := toHid hpc
  obtain ⟨av, cap, hv, _⟩ := hr
  obtain ⟨n, HN⟩ : ∃ n, Hid (xs.length = n) := ⟨_, rfl⟩
  rw [HN.out] at hv hl
  subst hv
  have hbw := lt_of_heap hpc
  have HC := toHid (fun (W' : World) => within_calls c p.w rn W' hc (by omega) (by omega) (by omega) (by omega))
  rw [HRN.out] at hin
  rw [hin] at HC

  have SK : Hid (∀ w', Ext Nope (w.alloc (.cells #[.int .i64 c.x, .int .i64 c.y, .int .i64 c.w, .int .i64 c.h] 31)) w' → (w'.cell? ⟨w.heap.size, 0, none⟩ = some (.int .i64 c.x) ∧ w'.cell? ⟨w.heap.size, 1, none⟩ = some (.int .i64 c.y) ∧ w'.cell? ⟨w.heap.size, 2, none⟩ = some (.int .i64 c.w) ∧ w'.cell? ⟨w.heap.size, 3, none⟩ = some (.int .i64 c.h)) ∧ (w'.cell? ⟨b, 0, none⟩ = some (.int .i64 (p.w : Int)) ∧ w'.cell? ⟨b, 1, none⟩ = some (.slice ra rn rc))) := fun w' e => by
    have kc := (e.block w.heap.size (by simp) (fun z => z)).trans (heap_alloc_new w _)
    have kb := (e.block b (by simp; omega) (fun z => z)).trans ((heap_alloc_old w _ b hbw).trans HPC.out)
    obtain ⟨q0, q1, q2, q3⟩ := r_cells kc
    exact ⟨⟨q0, q1, q2, q3⟩, cell_of_blk kb 0, cell_of_blk kb 1⟩
  rw [HN.out] at hlen
  have HNH := toHid hlen
  have hq1 : ((n : Int) == c.h) = true := by simpa using hlen
  have hq2 : ((n : Int) != c.h) = false := by simpa using hlen
  clear hlen
  have HIN := toHid hin
  clear h hrv hpc hin hrc1 hrc2 ok
  go_enter Tryd.func30, Tryd.ntmps30
  go_wp2
  refine wp_region_head 22 (fun w' => Ext Nope (w.alloc (.cells #[.int .i64 c.x, .int .i64 c.y, .int .i64 c.w, .int .i64 c.h] 31)) w' ∧ (w'.cell? ⟨w.heap.size, 0, none⟩ = some (.int .i64 c.x) ∧ w'.cell? ⟨w.heap.size, 1, none⟩ = some (.int .i64 c.y) ∧ w'.cell? ⟨w.heap.size, 2, none⟩ = some (.int .i64 c.w) ∧ w'.cell? ⟨w.heap.size, 3, none⟩ = some (.int .i64 c.h)) ∧ (w'.cell? ⟨b, 0, none⟩ = some (.int .i64 (p.w : Int)) ∧ w'.cell? ⟨b, 1, none⟩ = some (.slice ra rn rc))) (by kernel_rfl) (by kernel_rfl) ⟨(Ext.refl _ _).drew, SK.out _ (Ext.refl _ _).drew⟩ (fun hO hHeld => ?_)
  refine wpAnyT_takeD (i := 0) (d := some 12) (v := ?_) hO rfl rfl (by kernel_rfl) (fun _ _ _ h => h) (Or.inl ⟨by rfl, ?_⟩) (by exact hHeld) ?_
  rotate_left
  · intro w' hSw
    obtain ⟨_, ⟨z1, z2, z3, z4⟩, ⟨z5, z6⟩⟩ := hSw
    go_simp
    try (with_reducible rfl)
  try simp only [Act.put, List.setIfInBounds_toArray, List.set_cons_zero, List.set_cons_succ]
  refine wpAnyT_takeD (i := 1) (d := some 13) (v := ?_) hO rfl rfl (by kernel_rfl) (fun _ _ _ h => h) (Or.inl ⟨by rfl, ?_⟩) (by exact hHeld) ?_
  rotate_left
  · intro w' hSw
    obtain ⟨_, ⟨z1, z2, z3, z4⟩, ⟨z5, z6⟩⟩ := hSw
    go_simp
    try (with_reducible rfl)
  try simp only [Act.put, List.setIfInBounds_toArray, List.set_cons_zero, List.set_cons_succ]
  refine wpAnyT_takeD (i := 2) (d := some 14) (v := ?_) hO rfl rfl (by kernel_rfl) (fun _ _ _ h => h) (Or.inl ⟨by rfl, ?_⟩) (by exact hHeld) ?_
  rotate_left
  · intro w' hSw
    obtain ⟨_, ⟨z1, z2, z3, z4⟩, ⟨z5, z6⟩⟩ := hSw
    go_simp
    try (with_reducible rfl)
  try simp only [Act.put, List.setIfInBounds_toArray, List.set_cons_zero, List.set_cons_succ]
  refine wpAnyT_takeD (i := 3) (d := some 15) (v := ?_) hO rfl rfl (by kernel_rfl) (fun _ _ _ h => h) (Or.inl ⟨by rfl, ?_⟩) (by exact hHeld) ?_
  rotate_left
  · intro w' hSw
    obtain ⟨_, ⟨z1, z2, z3, z4⟩, ⟨z5, z6⟩⟩ := hSw
    go_simp
    try (with_reducible rfl)
  try simp only [Act.put, List.setIfInBounds_toArray, List.set_cons_zero, List.set_cons_succ]
  refine wpAnyT_takeD (i := 4) (d := some 16) (v := ?_) hO rfl rfl (by kernel_rfl) (fun _ _ _ h => h) (Or.inl ⟨by rfl, ?_⟩) (by exact hHeld) ?_
  rotate_left
  · intro w' hSw
    obtain ⟨_, ⟨z1, z2, z3, z4⟩, ⟨z5, z6⟩⟩ := hSw
    go_simp
    try (with_reducible rfl)
  try simp only [Act.put, List.setIfInBounds_toArray, List.set_cons_zero, List.set_cons_succ]
  refine wpAnyT_takeD (i := 5) (d := some 17) (v := ?_) hO rfl rfl (by kernel_rfl) (fun _ _ _ h => h) (Or.inl ⟨by rfl, ?_⟩) (by exact hHeld) ?_
  rotate_left
  · intro w' hSw
    obtain ⟨_, ⟨z1, z2, z3, z4⟩, ⟨z5, z6⟩⟩ := hSw
    go_simp
    try (with_reducible rfl)
  try simp only [Act.put, List.setIfInBounds_toArray, List.set_cons_zero, List.set_cons_succ]
  refine wpAnyT_takeD (i := 6) (d := some 18) (v := ?_) hO rfl rfl (by kernel_rfl) (fun _ _ _ h => h) (Or.inl ⟨by rfl, ?_⟩) (by exact hHeld) ?_
  rotate_left
  · intro w' hSw
    obtain ⟨_, ⟨z1, z2, z3, z4⟩, ⟨z5, z6⟩⟩ := hSw
    go_simp
    try (with_reducible rfl)
  try simp only [Act.put, List.setIfInBounds_toArray, List.set_cons_zero, List.set_cons_succ]
  refine wpAnyT_takeD (i := 7) (d := some 19) (v := ?_) hO rfl rfl (by kernel_rfl) (fun _ _ _ h => h) (Or.inl ⟨by rfl, ?_⟩) (by exact hHeld) ?_
  rotate_left
  · intro w' hSw
    obtain ⟨_, ⟨z1, z2, z3, z4⟩, ⟨z5, z6⟩⟩ := hSw
    go_simp
    try (with_reducible rfl)
  try simp only [Act.put, List.setIfInBounds_toArray, List.set_cons_zero, List.set_cons_succ]
  refine wpAnyT_takeD (i := 8) (d := some 20) (v := ?_) hO rfl rfl (by kernel_rfl) (fun _ _ _ h => h) (Or.inl ⟨by rfl, ?_⟩) (by exact hHeld) ?_
  rotate_left
  · intro w' hSw
    obtain ⟨_, ⟨z1, z2, z3, z4⟩, ⟨z5, z6⟩⟩ := hSw
    go_simp
    try (with_reducible rfl)
  try simp only [Act.put, List.setIfInBounds_toArray, List.set_cons_zero, List.set_cons_succ]
  refine wpAnyT_takeD (i := 9) (d := some 21) (v := ?_) hO rfl rfl (by kernel_rfl) (fun _ _ _ h => h) (Or.inl ⟨by rfl, ?_⟩) (by exact hHeld) ?_
  rotate_left
  · intro w' hSw
    obtain ⟨_, ⟨z1, z2, z3, z4⟩, ⟨z5, z6⟩⟩ := hSw
    go_simp
    try (with_reducible rfl)
  try simp only [Act.put, List.setIfInBounds_toArray, List.set_cons_zero, List.set_cons_succ]
  refine wpAnyT_takeD (i := 10) (d := some 22) (v := ?_) hO rfl rfl (by kernel_rfl) (fun _ _ _ h => h) (Or.inl ⟨by rfl, ?_⟩) (by exact hHeld) ?_
  rotate_left
  · intro w' hSw
    obtain ⟨_, ⟨z1, z2, z3, z4⟩, ⟨z5, z6⟩⟩ := hSw
    go_simp
    try (with_reducible rfl)
  try simp only [Act.put, List.setIfInBounds_toArray, List.set_cons_zero, List.set_cons_succ]
  refine wpAnyT_takeD (i := 11) (d := some 23) (v := ?_) hO rfl rfl (by kernel_rfl) (fun _ _ _ h => h) (Or.inl ⟨by rfl, ?_⟩) (by exact hHeld) ?_
  rotate_left
  · intro w' hSw
    obtain ⟨_, ⟨z1, z2, z3, z4⟩, ⟨z5, z6⟩⟩ := hSw
    go_simp
    try (with_reducible rfl)
  try simp only [Act.put, List.setIfInBounds_toArray, List.set_cons_zero, List.set_cons_succ]
  refine wpAnyT_takeD (i := 12) (d := some 24) (v := ?_) hO rfl rfl (by kernel_rfl) (fun _ _ _ h => h) (Or.inl ⟨by rfl, ?_⟩) (by exact hHeld) ?_
  rotate_left
  · intro w' hSw
    obtain ⟨_, ⟨z1, z2, z3, z4⟩, ⟨z5, z6⟩⟩ := hSw
    go_simp
    try (with_reducible rfl)
  try simp only [Act.put, List.setIfInBounds_toArray, List.set_cons_zero, List.set_cons_succ]
  clear hHeld
  refine wpAnyT_one (i := 13) rfl (by kernel_rfl) (by rfl) (fun K hK => ?_)
  go_simp
  refine (HC.out _).mono ?_
  rintro e w5 ⟨rfl, e5⟩
  have x1 : Ext Nope (w.alloc (.cells #[.int .i64 c.x, .int .i64 c.y, .int .i64 c.w, .int .i64 c.h] 31)) w5 := ext0 (Ext.refl _ _).drew e5
  clear e5
  try go_simp
  refine hK.out _ _ ⟨x1, SK.out _ x1⟩ (fun hHeld => ?_)
  clear hK K
  try simp only [Act.put, List.setIfInBounds_toArray, List.set_cons_zero, List.set_cons_succ]
  refine wpAnyT_takeD (i := 14) (d := some 26) (v := ?_) hO rfl rfl (by kernel_rfl) (fun _ _ _ h => h) (Or.inl ⟨by rfl, ?_⟩) (by exact hHeld) ?_
  rotate_left
  · intro w' hSw
    obtain ⟨_, ⟨z1, z2, z3, z4⟩, ⟨z5, z6⟩⟩ := hSw
    go_simp
    try (with_reducible rfl)
  try simp only [Act.put, List.setIfInBounds_toArray, List.set_cons_zero, List.set_cons_succ]
  refine wpAnyT_takeD (i := 15) (d := some 27) (v := ?_) hO rfl rfl (by kernel_rfl) (fun _ _ _ h => h) (Or.inl ⟨by rfl, ?_⟩) (by exact hHeld) ?_
  rotate_left
  · intro w' hSw
    obtain ⟨_, ⟨z1, z2, z3, z4⟩, ⟨z5, z6⟩⟩ := hSw
    go_simp
    try (with_reducible rfl)
  try simp only [Act.put, List.setIfInBounds_toArray, List.set_cons_zero, List.set_cons_succ]
  refine wpAnyT_takeD (i := 16) (d := some 28) (v := ?_) hO rfl rfl (by kernel_rfl) (fun _ _ _ h => h) (Or.inl ⟨by rfl, ?_⟩) (by exact hHeld) ?_
  rotate_left
  · intro w' hSw
    obtain ⟨_, ⟨z1, z2, z3, z4⟩, ⟨z5, z6⟩⟩ := hSw
    go_simp
    try (with_reducible rfl)
  try simp only [Act.put, List.setIfInBounds_toArray, List.set_cons_zero, List.set_cons_succ]
  refine wpAnyT_takeD (i := 17) (d := some 29) (v := ?_) hO rfl rfl (by kernel_rfl) (fun _ _ _ h => h) (Or.inl ⟨by rfl, ?_⟩) (by exact hHeld) ?_
  rotate_left
  · intro w' hSw
    obtain ⟨_, ⟨z1, z2, z3, z4⟩, ⟨z5, z6⟩⟩ := hSw
    go_simp
    try (with_reducible rfl)
  try simp only [Act.put, List.setIfInBounds_toArray, List.set_cons_zero, List.set_cons_succ]
  refine wpAnyT_takeD (i := 18) (d := some 30) (v := ?_) hO rfl rfl (by kernel_rfl) (fun _ _ _ h => h) (Or.inl ⟨by rfl, ?_⟩) (by exact hHeld) ?_
  rotate_left
  · intro w' hSw
    obtain ⟨_, ⟨z1, z2, z3, z4⟩, ⟨z5, z6⟩⟩ := hSw
    go_simp
    try (with_reducible rfl)
  try simp only [Act.put, List.setIfInBounds_toArray, List.set_cons_zero, List.set_cons_succ]
  refine wpAnyT_takeD (i := 19) (d := some 31) (v := ?_) hO rfl rfl (by kernel_rfl) (fun _ _ _ h => h) (Or.inl ⟨by rfl, ?_⟩) (by exact hHeld) ?_
  rotate_left
  · intro w' hSw
    obtain ⟨_, ⟨z1, z2, z3, z4⟩, ⟨z5, z6⟩⟩ := hSw
    go_simp
    try (with_reducible rfl)
  try simp only [Act.put, List.setIfInBounds_toArray, List.set_cons_zero, List.set_cons_succ]
  refine wpAnyT_takeD (i := 20) (d := some 32) (v := ?_) hO rfl rfl (by kernel_rfl) (fun _ _ _ h => h) (Or.inl ⟨by rfl, ?_⟩) (by exact hHeld) ?_
  rotate_left
  · intro w' hSw
    obtain ⟨_, ⟨z1, z2, z3, z4⟩, ⟨z5, z6⟩⟩ := hSw
    go_simp
    try (with_reducible rfl)
  try simp only [Act.put, List.setIfInBounds_toArray, List.set_cons_zero, List.set_cons_succ]
  refine wpAnyT_takeD (i := 21) (d := some 33) (v := ?_) hO rfl rfl (by kernel_rfl) (fun _ _ _ h => h) (Or.inl ⟨by rfl, ?_⟩) (by exact hHeld) ?_
  rotate_left
  · intro w' hSw
    obtain ⟨_, ⟨z1, z2, z3, z4⟩, ⟨z5, z6⟩⟩ := hSw
    go_simp
    try (with_reducible rfl)
  try simp only [Act.put, List.setIfInBounds_toArray, List.set_cons_zero, List.set_cons_succ]
  clear hHeld
  refine wpAnyT_done (by kernel_rfl) ⟨by kernel_rfl, ?_⟩
  simp only [List.drop_succ_cons, List.drop_zero]
  obtain ⟨⟨z1, z2, z3, z4⟩, ⟨z5, z6⟩⟩ := SK.out _ x1
  have X1 : Ext Nope w w5 := ext0 ((Ext.refl _ _).alloc _) x1
  obtain ⟨X, Y, W, H, hcx, g1, g2, g3, g4⟩ := inB_nat HIN.out
  have HCX := toHid hcx
  rw [hcx] at z1 z2 z3 z4
  simp only at z1 z2 z3 z4
  clear hcx
  have k0 : w5.heap[w.heap.size]? = some (.cells #[.int .i64 (X : Int), .int .i64 (Y : Int), .int .i64 (W : Int), .int .i64 (H : Int)] 31 (0, 0)) := by have := (x1.block w.heap.size (by simp) (fun z => z)).trans (heap_alloc_new w _); rw [HCX.out] at this; exact this
  have K0 := toHid k0
  have hwlt := lt_of_heap k0
  have W64 : W ≤ 64 := by omega
  have HM := toHid (fun W' => mask_calls W W' g1 W64)
  obtain ⟨zm, hzm⟩ : ∃ zm, 2 ^ W - 1 = zm := ⟨_, rfl⟩
  have HK := toHid (fun (W' : World) (hm : W'.cell? ⟨w5.heap.size, 0, none⟩ = some (u64 (2 ^ W - 1))) (e : Ext Nope w W') => contains_calls W w5.heap.size (HR.out.ext0 e) hu W64 hm (by rw [HN.out]; exact hl))
  have hW2 : c.w.toNat = W := by rw [HCX.out]; simp
  rw [hW2] at hall
  rw [hall] at HK
  rw [hzm] at HM HK
  clear k0 hW2 hall x1
  go_wp2_with (first
    | (go_at_call 46; refine (HM.out _).mono ?_; rintro e w' ⟨rfl, rfl⟩)
    | (go_at_call 49; refine (HK.out _ (cell_of_blk (heap_alloc_new _ _) 0) (X1.alloc _)).mono ?_; rintro e w' ⟨rfl, rfl⟩))
  go_ret
  exact ⟨rfl, HP.out.ext (X1.alloc _) (fun _ _ z => z), (X1.alloc _).mono (fun _ z => z.elim)⟩

theorem hx_bits {X W y x : Nat} (hy : y < 18446744073709551616) (hx : x < 2 ^ W) (_hW : 1 ≤ W) (h : X + W ≤ 64) : bits .or .u64 (bits .andNot .u64 (y : Int) (IntKind.u64.wrap (((2 ^ W - 1 : Nat) : Int) * 2 ^ X))) (IntKind.u64.wrap ((x : Int) * 2 ^ X)) = ((putX X W y x : Nat) : Int) := by
  have p1 : 2 ^ W * 2 ^ X ≤ 18446744073709551616 := by rw [← Nat.pow_add]; exact (show 2 ^ (W + X) ≤ 2 ^ 64 from Nat.pow_le_pow_right (by omega) (by omega))
  have a0 : 0 < 2 ^ W := Nat.two_pow_pos _
  have b0 : 0 < 2 ^ X := Nat.two_pow_pos _
  have m1 : (2 ^ W - 1) * 2 ^ X < 18446744073709551616 := Nat.lt_of_lt_of_le (Nat.mul_lt_mul_of_pos_right (show 2 ^ W - 1 < 2 ^ W by omega) b0) p1
  have m2 : x * 2 ^ X < 18446744073709551616 := Nat.lt_of_lt_of_le (Nat.mul_lt_mul_of_pos_right hx b0) p1
  rw [wrap_shl, wrap_shl, Nat.mod_eq_of_lt m1, Nat.mod_eq_of_lt m2, bits_andNot_u64 _ _ hy m1, bits_or_u64_nat _ _ ?_ m2]
  · rfl
  · have : y ^^^ (y &&& (2 ^ W - 1) * 2 ^ X) < 2 ^ 64 := Nat.xor_lt_two_pow (by omega) (Nat.and_lt_two_pow _ (by omega))
    exact this
theorem getD_of {xs : List Nat} {k x : Nat} (h : xs[k]? = some x) : xs.getD k 0 = x := by rw [List.getD_eq_getElem?_getD, h]; rfl
def panK (p : Pan) (X Y W : Nat) (xs : List Nat) (k : Nat) : Pan := ⟨p.w, putN X Y W xs p.rows k, p.failing, if p.failing then p.left - k else p.left, p.many⟩
theorem power_on {p : Pan} {X Y W H k : Nat} {xs : List Nat} (hk : k < countA p.failing p.left H) : powerA (panK p X Y W xs k) = (true, ⟨p.w, putN X Y W xs p.rows k, p.failing, if p.failing then p.left - (k + 1 : Nat) else p.left, p.many⟩) := by
  unfold powerA panK
  unfold countA at hk
  cases hf : p.failing with
  | false => simp
  | true =>
    rw [hf] at hk
    simp only [if_true] at hk ⊢
    have h1 : (k : Int) < p.left := by omega
    have h2 : mxI (p.left - k - 1) (-1) = p.left - (k + 1 : Nat) := by rw [mxI_eq]; omega
    rw [h2]
    simp
    omega
theorem power_off {p : Pan} {X Y W H k : Nat} {xs : List Nat} (hk : countA p.failing p.left H = k) (hH : k < H) (hl : p.failing = true → -1 ≤ p.left) : p.failing = true ∧ powerA (panK p X Y W xs k) = (false, ⟨p.w, putN X Y W xs p.rows k, p.failing, -1, p.many⟩) := by
  unfold powerA panK
  unfold countA at hk
  cases hf : p.failing with
  | false => rw [hf] at hk; simp at hk; omega
  | true =>
    rw [hf] at hk
    have hl := hl hf
    simp only [if_true] at hk ⊢
    have h2 : mxI (p.left - k - 1) (-1) = -1 := by rw [mxI_eq]; omega
    rw [h2]
    simp
def WriteOf (w : World) (base b : Nat) (rv : Value) (r : Int × Pan) (e : Ending) (w' : World) : Prop := e = .returned (.int .i64 r.1) ∧ PanAt w' base b rv r.2 ∧ Ext (Foot b rv) w w'

set_option maxRecDepth 100000 in
set_option maxHeartbeats 4000000 in
theorem write_good {w : World} {base b : Nat} {rv v : Value} {p : Pan} {xs : List Nat} {c : R} (h : PanAt w base b rv p) (ok : PanOK p) (hr : Reads w v xs) (hsep : ∀ g, v.ownBlock = some g → ¬ Foot b rv g) (hu : U64 xs) (hc : c.i64) (hl : xs.length ≤ 100000) (hin : inB c p.w p.rows.length = true) (hlen : (xs.length : Int) = c.h) (hall : allS c.w.toNat xs = true) :
    Calls Tryd.prog 30 #[ptr b, c.val, v] w (WriteOf w base b rv (writeA p c xs)) := by
  have hval : validA p.w p.rows.length c xs = true := by unfold validA; rw [hin, decide_eq_true hlen]; exact hall
  have HW := toHid (show writeA p c xs = _ by unfold writeA; rw [if_pos hval])
  have hall2 : ∀ x ∈ xs, x < 2 ^ c.w.toNat := by
    intro x hx
    have := List.all_eq_true.1 hall x hx
    simpa using this
  have HALL := toHid hall2
  have HOK := toHid ok
  clear hval hall2
  have HP := toHid h
  have HR := toHid hr
  obtain ⟨ra, rc, hrv, hrc1, hrc2, _⟩ := own_gen h.rows
  obtain ⟨rn, HRN⟩ : ∃ rn, Hid (p.rows.length = rn) := ⟨_, rfl⟩
  rw [HRN.out] at hrv
  have hrn64 : rn ≤ 64 := by have := ok.h; rw [HRN.out] at this; exact this
  have hpw64 := ok.w
  have HRV := toHid hrv
  have hpc : w.heap[b]? = some (.cells (panCells p (.slice ra rn rc)) 70 (0, 0)) := by have := h.cells; rw [hrv] at this; exact this
  have HPC := toHid hpc
  obtain ⟨av, cap, hv, _⟩ := hr
  obtain ⟨n, HN⟩ : ∃ n, Hid (xs.length = n) := ⟨_, rfl⟩
  rw [HN.out] at hv hl
  subst hv
  have hbw := lt_of_heap hpc
  have HC := toHid (fun (W' : World) => within_calls c p.w rn W' hc (by omega) (by omega) (by omega) (by omega))
  rw [HRN.out] at hin
  rw [hin] at HC

  have SK : Hid (∀ w', Ext Nope (w.alloc (.cells #[.int .i64 c.x, .int .i64 c.y, .int .i64 c.w, .int .i64 c.h] 31)) w' → (w'.cell? ⟨w.heap.size, 0, none⟩ = some (.int .i64 c.x) ∧ w'.cell? ⟨w.heap.size, 1, none⟩ = some (.int .i64 c.y) ∧ w'.cell? ⟨w.heap.size, 2, none⟩ = some (.int .i64 c.w) ∧ w'.cell? ⟨w.heap.size, 3, none⟩ = some (.int .i64 c.h)) ∧ (w'.cell? ⟨b, 0, none⟩ = some (.int .i64 (p.w : Int)) ∧ w'.cell? ⟨b, 1, none⟩ = some (.slice ra rn rc))) := fun w' e => by
    have kc := (e.block w.heap.size (by simp) (fun z => z)).trans (heap_alloc_new w _)
    have kb := (e.block b (by simp; omega) (fun z => z)).trans ((heap_alloc_old w _ b hbw).trans HPC.out)
    obtain ⟨q0, q1, q2, q3⟩ := r_cells kc
    exact ⟨⟨q0, q1, q2, q3⟩, cell_of_blk kb 0, cell_of_blk kb 1⟩
  rw [HN.out] at hlen
  have HNH := toHid hlen
  have hq1 : ((n : Int) == c.h) = true := by simpa using hlen
  have hq2 : ((n : Int) != c.h) = false := by simpa using hlen
  clear hlen
  have HIN := toHid hin
  clear h hrv hpc hin hrc1 hrc2 ok
  go_enter Tryd.func30, Tryd.ntmps30
  go_wp2
  refine wp_region_head 22 (fun w' => Ext Nope (w.alloc (.cells #[.int .i64 c.x, .int .i64 c.y, .int .i64 c.w, .int .i64 c.h] 31)) w' ∧ (w'.cell? ⟨w.heap.size, 0, none⟩ = some (.int .i64 c.x) ∧ w'.cell? ⟨w.heap.size, 1, none⟩ = some (.int .i64 c.y) ∧ w'.cell? ⟨w.heap.size, 2, none⟩ = some (.int .i64 c.w) ∧ w'.cell? ⟨w.heap.size, 3, none⟩ = some (.int .i64 c.h)) ∧ (w'.cell? ⟨b, 0, none⟩ = some (.int .i64 (p.w : Int)) ∧ w'.cell? ⟨b, 1, none⟩ = some (.slice ra rn rc))) (by kernel_rfl) (by kernel_rfl) ⟨(Ext.refl _ _).drew, SK.out _ (Ext.refl _ _).drew⟩ (fun hO hHeld => ?_)
  refine wpAnyT_takeD (i := 0) (d := some 12) (v := ?_) hO rfl rfl (by kernel_rfl) (fun _ _ _ h => h) (Or.inl ⟨by rfl, ?_⟩) (by exact hHeld) ?_
  rotate_left
  · intro w' hSw
    obtain ⟨_, ⟨z1, z2, z3, z4⟩, ⟨z5, z6⟩⟩ := hSw
    go_simp
    try (with_reducible rfl)
  try simp only [Act.put, List.setIfInBounds_toArray, List.set_cons_zero, List.set_cons_succ]
  refine wpAnyT_takeD (i := 1) (d := some 13) (v := ?_) hO rfl rfl (by kernel_rfl) (fun _ _ _ h => h) (Or.inl ⟨by rfl, ?_⟩) (by exact hHeld) ?_
  rotate_left
  · intro w' hSw
    obtain ⟨_, ⟨z1, z2, z3, z4⟩, ⟨z5, z6⟩⟩ := hSw
    go_simp
    try (with_reducible rfl)
  try simp only [Act.put, List.setIfInBounds_toArray, List.set_cons_zero, List.set_cons_succ]
  refine wpAnyT_takeD (i := 2) (d := some 14) (v := ?_) hO rfl rfl (by kernel_rfl) (fun _ _ _ h => h) (Or.inl ⟨by rfl, ?_⟩) (by exact hHeld) ?_
  rotate_left
  · intro w' hSw
    obtain ⟨_, ⟨z1, z2, z3, z4⟩, ⟨z5, z6⟩⟩ := hSw
    go_simp
    try (with_reducible rfl)
  try simp only [Act.put, List.setIfInBounds_toArray, List.set_cons_zero, List.set_cons_succ]
  refine wpAnyT_takeD (i := 3) (d := some 15) (v := ?_) hO rfl rfl (by kernel_rfl) (fun _ _ _ h => h) (Or.inl ⟨by rfl, ?_⟩) (by exact hHeld) ?_
  rotate_left
  · intro w' hSw
    obtain ⟨_, ⟨z1, z2, z3, z4⟩, ⟨z5, z6⟩⟩ := hSw
    go_simp
    try (with_reducible rfl)
  try simp only [Act.put, List.setIfInBounds_toArray, List.set_cons_zero, List.set_cons_succ]
  refine wpAnyT_takeD (i := 4) (d := some 16) (v := ?_) hO rfl rfl (by kernel_rfl) (fun _ _ _ h => h) (Or.inl ⟨by rfl, ?_⟩) (by exact hHeld) ?_
  rotate_left
  · intro w' hSw
    obtain ⟨_, ⟨z1, z2, z3, z4⟩, ⟨z5, z6⟩⟩ := hSw
    go_simp
    try (with_reducible rfl)
  try simp only [Act.put, List.setIfInBounds_toArray, List.set_cons_zero, List.set_cons_succ]
  refine wpAnyT_takeD (i := 5) (d := some 17) (v := ?_) hO rfl rfl (by kernel_rfl) (fun _ _ _ h => h) (Or.inl ⟨by rfl, ?_⟩) (by exact hHeld) ?_
  rotate_left
  · intro w' hSw
    obtain ⟨_, ⟨z1, z2, z3, z4⟩, ⟨z5, z6⟩⟩ := hSw
    go_simp
    try (with_reducible rfl)
  try simp only [Act.put, List.setIfInBounds_toArray, List.set_cons_zero, List.set_cons_succ]
  refine wpAnyT_takeD (i := 6) (d := some 18) (v := ?_) hO rfl rfl (by kernel_rfl) (fun _ _ _ h => h) (Or.inl ⟨by rfl, ?_⟩) (by exact hHeld) ?_
  rotate_left
  · intro w' hSw
    obtain ⟨_, ⟨z1, z2, z3, z4⟩, ⟨z5, z6⟩⟩ := hSw
    go_simp
    try (with_reducible rfl)
  try simp only [Act.put, List.setIfInBounds_toArray, List.set_cons_zero, List.set_cons_succ]
  refine wpAnyT_takeD (i := 7) (d := some 19) (v := ?_) hO rfl rfl (by kernel_rfl) (fun _ _ _ h => h) (Or.inl ⟨by rfl, ?_⟩) (by exact hHeld) ?_
  rotate_left
  · intro w' hSw
    obtain ⟨_, ⟨z1, z2, z3, z4⟩, ⟨z5, z6⟩⟩ := hSw
    go_simp
    try (with_reducible rfl)
  try simp only [Act.put, List.setIfInBounds_toArray, List.set_cons_zero, List.set_cons_succ]
  refine wpAnyT_takeD (i := 8) (d := some 20) (v := ?_) hO rfl rfl (by kernel_rfl) (fun _ _ _ h => h) (Or.inl ⟨by rfl, ?_⟩) (by exact hHeld) ?_
  rotate_left
  · intro w' hSw
    obtain ⟨_, ⟨z1, z2, z3, z4⟩, ⟨z5, z6⟩⟩ := hSw
    go_simp
    try (with_reducible rfl)
  try simp only [Act.put, List.setIfInBounds_toArray, List.set_cons_zero, List.set_cons_succ]
  refine wpAnyT_takeD (i := 9) (d := some 21) (v := ?_) hO rfl rfl (by kernel_rfl) (fun _ _ _ h => h) (Or.inl ⟨by rfl, ?_⟩) (by exact hHeld) ?_
  rotate_left
  · intro w' hSw
    obtain ⟨_, ⟨z1, z2, z3, z4⟩, ⟨z5, z6⟩⟩ := hSw
    go_simp
    try (with_reducible rfl)
  try simp only [Act.put, List.setIfInBounds_toArray, List.set_cons_zero, List.set_cons_succ]
  refine wpAnyT_takeD (i := 10) (d := some 22) (v := ?_) hO rfl rfl (by kernel_rfl) (fun _ _ _ h => h) (Or.inl ⟨by rfl, ?_⟩) (by exact hHeld) ?_
  rotate_left
  · intro w' hSw
    obtain ⟨_, ⟨z1, z2, z3, z4⟩, ⟨z5, z6⟩⟩ := hSw
    go_simp
    try (with_reducible rfl)
  try simp only [Act.put, List.setIfInBounds_toArray, List.set_cons_zero, List.set_cons_succ]
  refine wpAnyT_takeD (i := 11) (d := some 23) (v := ?_) hO rfl rfl (by kernel_rfl) (fun _ _ _ h => h) (Or.inl ⟨by rfl, ?_⟩) (by exact hHeld) ?_
  rotate_left
  · intro w' hSw
    obtain ⟨_, ⟨z1, z2, z3, z4⟩, ⟨z5, z6⟩⟩ := hSw
    go_simp
    try (with_reducible rfl)
  try simp only [Act.put, List.setIfInBounds_toArray, List.set_cons_zero, List.set_cons_succ]
  refine wpAnyT_takeD (i := 12) (d := some 24) (v := ?_) hO rfl rfl (by kernel_rfl) (fun _ _ _ h => h) (Or.inl ⟨by rfl, ?_⟩) (by exact hHeld) ?_
  rotate_left
  · intro w' hSw
    obtain ⟨_, ⟨z1, z2, z3, z4⟩, ⟨z5, z6⟩⟩ := hSw
    go_simp
    try (with_reducible rfl)
  try simp only [Act.put, List.setIfInBounds_toArray, List.set_cons_zero, List.set_cons_succ]
  clear hHeld
  refine wpAnyT_one (i := 13) rfl (by kernel_rfl) (by rfl) (fun K hK => ?_)
  go_simp
  refine (HC.out _).mono ?_
  rintro e w5 ⟨rfl, e5⟩
  have x1 : Ext Nope (w.alloc (.cells #[.int .i64 c.x, .int .i64 c.y, .int .i64 c.w, .int .i64 c.h] 31)) w5 := ext0 (Ext.refl _ _).drew e5
  clear e5
  try go_simp
  refine hK.out _ _ ⟨x1, SK.out _ x1⟩ (fun hHeld => ?_)
  clear hK K
  try simp only [Act.put, List.setIfInBounds_toArray, List.set_cons_zero, List.set_cons_succ]
  refine wpAnyT_takeD (i := 14) (d := some 26) (v := ?_) hO rfl rfl (by kernel_rfl) (fun _ _ _ h => h) (Or.inl ⟨by rfl, ?_⟩) (by exact hHeld) ?_
  rotate_left
  · intro w' hSw
    obtain ⟨_, ⟨z1, z2, z3, z4⟩, ⟨z5, z6⟩⟩ := hSw
    go_simp
    try (with_reducible rfl)
  try simp only [Act.put, List.setIfInBounds_toArray, List.set_cons_zero, List.set_cons_succ]
  refine wpAnyT_takeD (i := 15) (d := some 27) (v := ?_) hO rfl rfl (by kernel_rfl) (fun _ _ _ h => h) (Or.inl ⟨by rfl, ?_⟩) (by exact hHeld) ?_
  rotate_left
  · intro w' hSw
    obtain ⟨_, ⟨z1, z2, z3, z4⟩, ⟨z5, z6⟩⟩ := hSw
    go_simp
    try (with_reducible rfl)
  try simp only [Act.put, List.setIfInBounds_toArray, List.set_cons_zero, List.set_cons_succ]
  refine wpAnyT_takeD (i := 16) (d := some 28) (v := ?_) hO rfl rfl (by kernel_rfl) (fun _ _ _ h => h) (Or.inl ⟨by rfl, ?_⟩) (by exact hHeld) ?_
  rotate_left
  · intro w' hSw
    obtain ⟨_, ⟨z1, z2, z3, z4⟩, ⟨z5, z6⟩⟩ := hSw
    go_simp
    try (with_reducible rfl)
  try simp only [Act.put, List.setIfInBounds_toArray, List.set_cons_zero, List.set_cons_succ]
  refine wpAnyT_takeD (i := 17) (d := some 29) (v := ?_) hO rfl rfl (by kernel_rfl) (fun _ _ _ h => h) (Or.inl ⟨by rfl, ?_⟩) (by exact hHeld) ?_
  rotate_left
  · intro w' hSw
    obtain ⟨_, ⟨z1, z2, z3, z4⟩, ⟨z5, z6⟩⟩ := hSw
    go_simp
    try (with_reducible rfl)
  try simp only [Act.put, List.setIfInBounds_toArray, List.set_cons_zero, List.set_cons_succ]
  refine wpAnyT_takeD (i := 18) (d := some 30) (v := ?_) hO rfl rfl (by kernel_rfl) (fun _ _ _ h => h) (Or.inl ⟨by rfl, ?_⟩) (by exact hHeld) ?_
  rotate_left
  · intro w' hSw
    obtain ⟨_, ⟨z1, z2, z3, z4⟩, ⟨z5, z6⟩⟩ := hSw
    go_simp
    try (with_reducible rfl)
  try simp only [Act.put, List.setIfInBounds_toArray, List.set_cons_zero, List.set_cons_succ]
  refine wpAnyT_takeD (i := 19) (d := some 31) (v := ?_) hO rfl rfl (by kernel_rfl) (fun _ _ _ h => h) (Or.inl ⟨by rfl, ?_⟩) (by exact hHeld) ?_
  rotate_left
  · intro w' hSw
    obtain ⟨_, ⟨z1, z2, z3, z4⟩, ⟨z5, z6⟩⟩ := hSw
    go_simp
    try (with_reducible rfl)
  try simp only [Act.put, List.setIfInBounds_toArray, List.set_cons_zero, List.set_cons_succ]
  refine wpAnyT_takeD (i := 20) (d := some 32) (v := ?_) hO rfl rfl (by kernel_rfl) (fun _ _ _ h => h) (Or.inl ⟨by rfl, ?_⟩) (by exact hHeld) ?_
  rotate_left
  · intro w' hSw
    obtain ⟨_, ⟨z1, z2, z3, z4⟩, ⟨z5, z6⟩⟩ := hSw
    go_simp
    try (with_reducible rfl)
  try simp only [Act.put, List.setIfInBounds_toArray, List.set_cons_zero, List.set_cons_succ]
  refine wpAnyT_takeD (i := 21) (d := some 33) (v := ?_) hO rfl rfl (by kernel_rfl) (fun _ _ _ h => h) (Or.inl ⟨by rfl, ?_⟩) (by exact hHeld) ?_
  rotate_left
  · intro w' hSw
    obtain ⟨_, ⟨z1, z2, z3, z4⟩, ⟨z5, z6⟩⟩ := hSw
    go_simp
    try (with_reducible rfl)
  try simp only [Act.put, List.setIfInBounds_toArray, List.set_cons_zero, List.set_cons_succ]
  clear hHeld
  refine wpAnyT_done (by kernel_rfl) ⟨by kernel_rfl, ?_⟩
  simp only [List.drop_succ_cons, List.drop_zero]
  obtain ⟨⟨z1, z2, z3, z4⟩, ⟨z5, z6⟩⟩ := SK.out _ x1
  have X1 : Ext Nope w w5 := ext0 ((Ext.refl _ _).alloc _) x1
  obtain ⟨X, Y, W, H, hcx, g1, g2, g3, g4⟩ := inB_nat HIN.out
  have HCX := toHid hcx
  rw [hcx] at z1 z2 z3 z4
  simp only at z1 z2 z3 z4
  clear hcx
  have k0 : w5.heap[w.heap.size]? = some (.cells #[.int .i64 (X : Int), .int .i64 (Y : Int), .int .i64 (W : Int), .int .i64 (H : Int)] 31 (0, 0)) := by have := (x1.block w.heap.size (by simp) (fun z => z)).trans (heap_alloc_new w _); rw [HCX.out] at this; exact this
  have K0 := toHid k0
  have hwlt := lt_of_heap k0
  have W64 : W ≤ 64 := by omega
  have HM := toHid (fun W' => mask_calls W W' g1 W64)
  obtain ⟨zm, hzm⟩ : ∃ zm, 2 ^ W - 1 = zm := ⟨_, rfl⟩
  have HK := toHid (fun (W' : World) (hm : W'.cell? ⟨w5.heap.size, 0, none⟩ = some (u64 (2 ^ W - 1))) (e : Ext Nope w W') => contains_calls W w5.heap.size (HR.out.ext0 e) hu W64 hm (by rw [HN.out]; exact hl))
  have hW2 : c.w.toNat = W := by rw [HCX.out]; simp
  rw [hW2] at hall
  rw [hall] at HK
  rw [hzm] at HM HK
  clear k0 hW2 hall x1
  have HSZ : Hid (∀ k, Foot b rv k → k < w.heap.size) := fun k hk => (PanAt.foot HP.out k hk).2
  have hw5 : w.heap.size < w5.heap.size := by have := X1.size; exact hwlt
  go_wp2_with (first
    | (go_at_call 46; refine (HM.out _).mono ?_; rintro e w' ⟨rfl, rfl⟩)
    | (go_at_call 49; refine (HK.out _ (cell_of_blk (heap_alloc_new _ _) 0) (X1.alloc _)).mono ?_; rintro e w' ⟨rfl, rfl⟩))
  have KM := toHid (heap_alloc_new w5 (.cells #[u64 zm] 63))
  have K07 := toHid ((heap_alloc_old w5 (.cells #[u64 zm] 63) w.heap.size hwlt).trans K0.out)
  have X7 := toHid (X1.alloc (.cells #[u64 zm] 63))
  have hsz7 : w5.heap.size < (w5.alloc (.cells #[u64 zm] 63)).heap.size := by simp
  have hnH : n = H := by have := HNH.out; rw [HCX.out] at this; simp only at this; omega
  have HZM := toHid hzm
  generalize hM : w5.heap.size = M at *
  generalize w5.alloc (.cells #[u64 zm] 63) = w7 at *
  clear z1 z2 z3 z4 z5 z6 X1 HM HK K0 hwlt hzm hM HC SK HNH
  subst hnH
  obtain ⟨N, hN⟩ : ∃ N, countA p.failing p.left n = N := ⟨_, rfl⟩
  have hNn : N ≤ n := by rw [← hN]; unfold countA; split <;> omega
  have HCN := toHid hN
  clear hN
  have hrows : ∃ g, rv = .slice (some ⟨g, 0, none⟩) rn rc := by
    obtain ⟨a1, a2, e1, _, _, e4⟩ := own_gen HP.out.rows
    obtain ⟨g, e5⟩ := e4 (by rw [HRN.out]; omega)
    rw [HRV.out] at e1 ⊢
    injection e1 with e1 _ _
    exact ⟨g, by rw [e1, e5]⟩
  obtain ⟨g, hg⟩ := hrows
  have hra : ra = some ⟨g, 0, none⟩ := by have := HRV.out; rw [hg] at this; injection this with e1 _ _; exact e1.symm
  subst hra
  subst hg
  go_loopw [45] (fun i wr => ∃ k : Nat, i = .int .i64 k ∧ k ≤ N ∧ PanAt wr base b (.slice (some ⟨g, 0, none⟩) rn rc) (panK p X Y W xs k) ∧ Ext (Foot b (.slice (some ⟨g, 0, none⟩) rn rc)) w7 wr) (fun i _ => n - (intOf i).toNat)
  case atStart => exact ⟨0, rfl, Nat.zero_le _, by have := HP.out.ext X7.out (fun _ _ z => z); unfold panK; simp [putN]; exact this, Ext.refl _ _⟩
  case round =>
    obtain ⟨k, rfl, hk, hO, hE⟩ := hrel
    by_cases hkn : k < n
    · have hRd : Reads wr (.slice av n cap) xs := (HR.out.ext0 X7.out).ext hE hsep
      obtain ⟨vb, vo, rfl, hvb, hvc⟩ := hRd.at (by omega)
      obtain ⟨x, hx⟩ := some_at (k := k) hkn HN.out
      have cv := hvc k x hx
      have HX := toHid hx
      have hpw := power_calls hO (fun hf => by unfold panK at hf ⊢; simp only at hf ⊢; rw [if_pos hf]; have hll := HOK.out.left hf; have hcc := HCN.out; unfold countA at hcc; rw [if_pos hf] at hcc; omega) (by unfold panK; simp only; have := HOK.out.l2; split <;> omega)
      by_cases hkN : k < N
      · rw [power_on (H := n) (by rw [HCN.out]; exact hkN)] at hpw
        have HPW := toHid hpw
        clear hpw hvc hx
        go_wp2_with (go_at_call 51; refine HPW.out.mono ?_; rintro e w8 ⟨rfl, hO8, e8⟩; have HO8 := toHid hO8; have HE8 := toHid (hE.trans e8 (fun _ _ z => z)); clear hO8 e8)
        have hsw : ¬ Foot b (.slice (some ⟨g, 0, none⟩) rn rc) w.heap.size := fun z => absurd (HSZ.out _ z) (Nat.lt_irrefl _)
        have hsM : ¬ Foot b (.slice (some ⟨g, 0, none⟩) rn rc) M := fun z => by have := HSZ.out _ z; omega
        have k8 := (HE8.out.block _ (lt_of_heap K07.out) hsw).trans K07.out
        have m8 := (HE8.out.block _ (lt_of_heap KM.out) hsM).trans KM.out
        have y0 : w8.cell? ⟨w.heap.size, 0, none⟩ = some (.int .i64 (X : Int)) := cell_of_blk k8 0
        have y1 : w8.cell? ⟨w.heap.size, 1, none⟩ = some (.int .i64 (Y : Int)) := cell_of_blk k8 1
        have mm : w8.cell? ⟨M, 0, none⟩ = some (.int .u64 (zm : Int)) := cell_of_blk m8 0
        have c1 : w8.cell? ⟨b, 1, none⟩ = some (.slice (some ⟨g, 0, none⟩) rn rc) := cell_of_blk HO8.out.cells 1
        have hlk : (putN X Y W xs p.rows k).length = rn := by rw [putN_length, HRN.out]
        obtain ⟨y, hy⟩ := some_at (xs := putN X Y W xs p.rows k) (k := Y + k) (n := rn) (by omega) hlk
        have r1 : w8.cell? ⟨g, Y + k, none⟩ = some (.int .u64 (y : Int)) := RowsAt.cell HO8.out.rows hy
        have fr : w8.frozen? ⟨g, Y + k, none⟩ = false := RowsAt.free HO8.out.rows (Y + k)
        have hx64 : x < 2 ^ W := by have := HALL.out x (List.mem_of_getElem? HX.out); rw [HCX.out] at this; simpa using this
        have hy64 : y < 18446744073709551616 := by
          have h1 := putN_u64 (X := X) (Y := Y) (W := W) (xs := xs) (rows := p.rows) (fun z hz => by have := HALL.out z hz; rw [HCX.out] at this; simpa using this) HOK.out.u (by have := HOK.out.w; omega) k
          exact h1.at hy
        have hE := hx_bits (X := X) (W := W) hy64 hx64 g1 (by have := HOK.out.w; omega)
        rw [HZM.out] at hE
        have hnx : putN X Y W xs p.rows (k + 1) = (putN X Y W xs p.rows k).set (Y + k) (putX X W y x) := by rw [putN, getD_of hy, getD_of HX.out]
        have HV := toHid hE
        have hset : ∀ w9 : World, Ext Nope w8 w9 → PanAt (w9.setCell ⟨g, Y + k, none⟩ (.int .u64 ((putX X W y x : Nat) : Int))) base b (.slice (some ⟨g, 0, none⟩) rn rc) (panK p X Y W xs (k + 1)) := fun w9 e9 => by
          have h9 := HO8.out.ext e9 (fun _ _ z => z)
          have h10 := PanAt.setRow h9 hlk (Y + k) (by omega) (putX X W y x)
          rw [← hnx] at h10
          exact h10
        have HS := toHid hset
        have s1 : IntKind.i64.wrap ((Y : Int) + (k : Int)) = (Y : Int) + (k : Int) := IntWalk.i64_in _ (by omega)
        have s2 : (0 : Int) ≤ (Y : Int) + (k : Int) := by omega
        have s3 : (Y : Int) + (k : Int) < (rn : Int) := by omega
        have s4 : ((Y : Int) + (k : Int)).toNat = Y + k := by omega
        clear hE hnx hset hy hx64 hy64 hlk k8 m8 cv hsw hsM
        go_quiet (fail)
        have e9 : Ext Nope w8 (w8.drewN nq) := (Ext.refl _ _).drewN nq
        have r1' : (w8.drewN nq).cell? ⟨g, Y + k, none⟩ = some (.int .u64 (y : Int)) := r1
        have fr' : (w8.drewN nq).frozen? ⟨g, Y + k, none⟩ = false := fr
        have mm' : (w8.drewN nq).cell? ⟨M, 0, none⟩ = some (.int .u64 (zm : Int)) := mm
        have y0' : (w8.drewN nq).cell? ⟨w.heap.size, 0, none⟩ = some (.int .i64 (X : Int)) := y0
        have HS9 := toHid (show _ ∧ _ from ⟨HS.out _ e9.drew, HE8.out.trans e9.drew (fun _ _ z => z.elim)⟩)
        clear r1 fr mm y0 y1 c1 e9 HS HE8 HO8 s1 s2 s3 s4 HPW
        generalize w8.drewN nq = w9 at *
        go_wp2
        go_still_tail 14, (by kernel_rfl)
        change wpList _ _ _ _ _ w9.drew
        have r1 : w9.drew.cell? ⟨g, Y + k, none⟩ = some (.int .u64 (y : Int)) := r1'
        have fr : w9.drew.frozen? ⟨g, Y + k, none⟩ = false := fr'
        clear r1' fr' mm' y0'
        rw [HV.out]
        go_wp2
        go_roundw
        case rel => exact ⟨k + 1, by go_num, by omega, HS9.out.1, HS9.out.2.setCell g (Y + k) (fun _ => .inr rfl) _⟩
        case measure => simp [intOf]; omega
      · have hkN2 : k = N := by omega
        subst hkN2
        obtain ⟨hf, hoff⟩ := power_off (X := X) (Y := Y) (W := W) (xs := xs) HCN.out hkn HOK.out.left
        rw [hoff] at hpw
        have hw : writeA p c xs = (52, ⟨p.w, putN X Y W xs p.rows k, p.failing, -1, p.many⟩) := by
          have h1 := HCN.out
          rw [HW.out, HN.out, h1, if_neg (by omega), HCX.out]
          simp only [Int.toNat_natCast]
        have HPW := toHid hpw
        have HWA := toHid hw
        clear hpw hvc hx hoff hf hw
        go_wp2_with (go_at_call 51; refine HPW.out.mono ?_; rintro e w8 ⟨rfl, hO8, e8⟩; have HO8 := toHid hO8; have HE8 := toHid (hE.trans e8 (fun _ _ z => z)); clear hO8 e8)
        go_ret
        unfold WriteOf
        rw [HWA.out]
        exact ⟨rfl, HO8.out, Ext.trans (X7.out.mono (fun _ z => z.elim)) HE8.out (fun _ _ z => z)⟩
    · have hkn2 : k = n := by omega
      subst hkn2
      have hNk : N = k := by omega
      subst hNk
      have hw : writeA p c xs = (0, ⟨p.w, putN X Y W xs p.rows N, p.failing, if p.failing then p.left - N else p.left, p.many + 1⟩) := by
        have h1 := HCN.out
        rw [HW.out, HN.out, h1, if_pos rfl, HCX.out]
        simp only [Int.toNat_natCast]
      have HWA := toHid hw
      have hmany : p.many ≤ 1000000 := HOK.out.many
      have c4 : wr.cell? ⟨b, 4, none⟩ = some (.int .i64 (p.many : Int)) := cell_of_blk hO.cells 4
      have f4 : wr.frozen? ⟨b, 4, none⟩ = false := free_of_blk hO.cells 4
      have hfin := hO.put (q := ⟨p.w, putN X Y W xs p.rows N, p.failing, if p.failing then p.left - N else p.left, p.many + 1⟩) 4 (.int .i64 ((p.many : Int) + 1)) (by simp [panK]) rfl
      have HFIN := toHid (show _ ∧ _ from ⟨hfin, foot_put (Ext.trans (X7.out.mono (fun _ z => z.elim)) hE (fun _ _ z => z)) 4 (.int .i64 ((p.many : Int) + 1))⟩)
      have hbl := lt_of_heap hO.cells
      clear hw hfin hO hE
      go_wp2
      go_ret
      unfold WriteOf
      rw [HWA.out]
      exact ⟨rfl, HFIN.out.1, HFIN.out.2⟩
end Go.Proofs.YtmmcadbkmfjcbaaDoor
