/-
  abugidaref33.Write: the walk, where the rectangle fits.
-/
import Derived.Test.YtmmcadbkmfjcbaaDoorE7
import Derived.Deep.DeepCutAuto
import Derived.StillTailTactics
namespace Go.Proofs.YtmmcadbkmfjcbaaDoor
open Go.RowKit
attribute [local go_sem] alloc_drewN setCell_drewN

def RWriteOf (w : World) (base b : Nat) (rv : Value) (r : Int × Ref) (e : Ending) (w' : World) : Prop := e = .returned (.int .i64 r.1) ∧ RefAt w' base b rv r.2 ∧ Ext (Foot b rv) w w'
theorem RefAt.setRow {W : World} {base b g n cap : Nat} {p : Ref} (h : RefAt W base b (.slice (some ⟨g, 0, none⟩) n cap) p) (hn : p.rows.length = n) (j : Nat) (hj : j < n) (x : Nat) : RefAt (W.setCell ⟨g, j, none⟩ (u64 x)) base b (.slice (some ⟨g, 0, none⟩) n cap) ⟨p.w, p.rows.set j x, p.left, p.many⟩ := by
  have hg : b ≠ g := fun z => h.apart (by rw [z]; rfl)
  exact ⟨(heap_setCell_ne W g j b _ hg).trans h.cells, RowsAt.set h.rows hn j hj x, h.base, h.apart⟩
def refK (p : Ref) (X Y W : Nat) (xs : List Nat) (k : Nat) : Ref := ⟨p.w, putN X Y W xs p.rows k, if 0 ≤ p.left then p.left - k else p.left, p.many⟩
theorem small_of_bits {x W : Nat} (hx : x < 18446744073709551616) (h : ∀ j, W ≤ j → j < 64 → x.testBit j = false) : x < 2 ^ W := by
  refine Nat.lt_pow_two_of_testBit x fun i hi => ?_
  by_cases h2 : i < 64
  · exact h i hi h2
  · exact Nat.testBit_lt_two_pow (Nat.lt_of_lt_of_le (show x < 2 ^ 64 from hx) (Nat.pow_le_pow_right (by omega) (by omega)))

set_option maxRecDepth 100000 in
set_option maxHeartbeats 4000000 in
theorem rwrite_in {w : World} {base b : Nat} {rv v : Value} {p : Ref} {xs : List Nat} {c : R} (h : RefAt w base b rv p) (ok : RefOK p) (hr : Reads w v xs) (hsep : ∀ g, v.ownBlock = some g → ¬ Foot b rv g) (hu : U64 xs) (hc : c.i64) (hl : xs.length ≤ 100000) (hw0 : ¬ p.w = 0) (hin : inB c p.w p.rows.length = true) (hlen : (xs.length : Int) = c.h) :
    Calls Tryd.prog 36 #[ptr b, c.val, v] w (RWriteOf w base b rv (rwriteA p c xs)) := by
  have HV0 := toHid (show validA p.w p.rows.length c xs = allS c.w.toNat xs by unfold validA; rw [hin, decide_eq_true hlen]; rfl)
  have HOK := toHid ok
  have HW0 := toHid hw0
  have HP := toHid h
  have HR := toHid hr
  obtain ⟨ra, rc, hrv, hrc1, hrc2, _⟩ := own_gen h.rows
  obtain ⟨rn, HRN⟩ : ∃ rn, Hid (p.rows.length = rn) := ⟨_, rfl⟩
  rw [HRN.out] at hrv
  have hrn64 : rn ≤ 64 := by have := ok.h; rw [HRN.out] at this; exact this
  have hpw64 := ok.w
  have HRV := toHid hrv
  have hpc : w.heap[b]? = some (.cells (refCells p (.slice ra rn rc)) 74 (0, 0)) := by have := h.cells; rw [hrv] at this; exact this
  have HPC := toHid hpc
  obtain ⟨av, cap, hv, _⟩ := hr
  obtain ⟨n, HN⟩ : ∃ n, Hid (xs.length = n) := ⟨_, rfl⟩
  rw [HN.out] at hv hl
  subst hv
  have hbw := lt_of_heap hpc
  have HC := toHid (fun (W' : World) => Within_calls c p.w rn W' hc (by omega) (by omega) (by omega) (by omega))
  rw [HRN.out] at hin
  rw [hin] at HC
  have hnone := none_calls (h.ext ((Ext.refl Nope w).alloc (.cells #[.int .i64 c.x, .int .i64 c.y, .int .i64 c.w, .int .i64 c.h] 31)) (fun _ _ z => z))
  rw [decide_eq_false hw0] at hnone
  have HNO := toHid hnone
  have SK : Hid (∀ w', Ext Nope (w.alloc (.cells #[.int .i64 c.x, .int .i64 c.y, .int .i64 c.w, .int .i64 c.h] 31)) w' → (w'.cell? ⟨w.heap.size, 0, none⟩ = some (.int .i64 c.x) ∧ w'.cell? ⟨w.heap.size, 1, none⟩ = some (.int .i64 c.y) ∧ w'.cell? ⟨w.heap.size, 2, none⟩ = some (.int .i64 c.w) ∧ w'.cell? ⟨w.heap.size, 3, none⟩ = some (.int .i64 c.h)) ∧ (w'.cell? ⟨b, 0, none⟩ = some (.int .i64 (p.w : Int)) ∧ w'.cell? ⟨b, 1, none⟩ = some (.slice ra rn rc))) := fun w' e => by
    have kc := (e.block w.heap.size (by simp) (fun z => z)).trans (heap_alloc_new w _)
    have kb := (e.block b (by simp; omega) (fun z => z)).trans ((heap_alloc_old w _ b hbw).trans HPC.out)
    obtain ⟨q0, q1, q2, q3⟩ := r_cells kc
    exact ⟨⟨q0, q1, q2, q3⟩, cell_of_blk kb 0, cell_of_blk kb 1⟩
  rw [HN.out] at hlen
  have HNH := toHid hlen
  have HIN := toHid hin
  have hq1 : ((n : Int) == c.h) = true := by simpa using hlen
  have hq2 : ((n : Int) != c.h) = false := by simpa using hlen
  clear hlen
  clear h hrv hpc hin hrc1 hrc2 ok hnone hw0
  go_enter Tryd.func36, Tryd.ntmps36
  go_wp2_with (go_at_call 38; refine HNO.out.mono ?_; rintro e w' ⟨rfl, rfl⟩)
  refine wp_region_head 11 (fun w' => Ext Nope (w.alloc (.cells #[.int .i64 c.x, .int .i64 c.y, .int .i64 c.w, .int .i64 c.h] 31)) w' ∧ (w'.cell? ⟨w.heap.size, 0, none⟩ = some (.int .i64 c.x) ∧ w'.cell? ⟨w.heap.size, 1, none⟩ = some (.int .i64 c.y) ∧ w'.cell? ⟨w.heap.size, 2, none⟩ = some (.int .i64 c.w) ∧ w'.cell? ⟨w.heap.size, 3, none⟩ = some (.int .i64 c.h)) ∧ (w'.cell? ⟨b, 0, none⟩ = some (.int .i64 (p.w : Int)) ∧ w'.cell? ⟨b, 1, none⟩ = some (.slice ra rn rc))) (by kernel_rfl) (by kernel_rfl) ⟨(Ext.refl _ _).drew, SK.out _ (Ext.refl _ _).drew⟩ (fun hO hHeld => ?_)
  refine wpAnyT_takeD (i := 0) (d := some 17) (v := ?_) hO rfl rfl (by kernel_rfl) (fun _ _ _ h => h) (Or.inl ⟨by rfl, ?_⟩) (by exact hHeld) ?_
  rotate_left
  · intro w' hSw
    obtain ⟨_, ⟨z1, z2, z3, z4⟩, ⟨z5, z6⟩⟩ := hSw
    go_simp
    try (with_reducible rfl)
  try simp only [Act.put, List.setIfInBounds_toArray, List.set_cons_zero, List.set_cons_succ]
  refine wpAnyT_takeD (i := 1) (d := some 18) (v := ?_) hO rfl rfl (by kernel_rfl) (fun _ _ _ h => h) (Or.inl ⟨by rfl, ?_⟩) (by exact hHeld) ?_
  rotate_left
  · intro w' hSw
    obtain ⟨_, ⟨z1, z2, z3, z4⟩, ⟨z5, z6⟩⟩ := hSw
    go_simp
    try (with_reducible rfl)
  try simp only [Act.put, List.setIfInBounds_toArray, List.set_cons_zero, List.set_cons_succ]
  refine wpAnyT_takeD (i := 2) (d := some 19) (v := ?_) hO rfl rfl (by kernel_rfl) (fun _ _ _ h => h) (Or.inl ⟨by rfl, ?_⟩) (by exact hHeld) ?_
  rotate_left
  · intro w' hSw
    obtain ⟨_, ⟨z1, z2, z3, z4⟩, ⟨z5, z6⟩⟩ := hSw
    go_simp
    try (with_reducible rfl)
  try simp only [Act.put, List.setIfInBounds_toArray, List.set_cons_zero, List.set_cons_succ]
  refine wpAnyT_takeD (i := 3) (d := some 20) (v := ?_) hO rfl rfl (by kernel_rfl) (fun _ _ _ h => h) (Or.inl ⟨by rfl, ?_⟩) (by exact hHeld) ?_
  rotate_left
  · intro w' hSw
    obtain ⟨_, ⟨z1, z2, z3, z4⟩, ⟨z5, z6⟩⟩ := hSw
    go_simp
    try (with_reducible rfl)
  try simp only [Act.put, List.setIfInBounds_toArray, List.set_cons_zero, List.set_cons_succ]
  refine wpAnyT_takeD (i := 4) (d := some 21) (v := ?_) hO rfl rfl (by kernel_rfl) (fun _ _ _ h => h) (Or.inl ⟨by rfl, ?_⟩) (by exact hHeld) ?_
  rotate_left
  · intro w' hSw
    obtain ⟨_, ⟨z1, z2, z3, z4⟩, ⟨z5, z6⟩⟩ := hSw
    go_simp
    try (with_reducible rfl)
  try simp only [Act.put, List.setIfInBounds_toArray, List.set_cons_zero, List.set_cons_succ]
  refine wpAnyT_takeD (i := 5) (d := some 22) (v := ?_) hO rfl rfl (by kernel_rfl) (fun _ _ _ h => h) (Or.inl ⟨by rfl, ?_⟩) (by exact hHeld) ?_
  rotate_left
  · intro w' hSw
    obtain ⟨_, ⟨z1, z2, z3, z4⟩, ⟨z5, z6⟩⟩ := hSw
    go_simp
    try (with_reducible rfl)
  try simp only [Act.put, List.setIfInBounds_toArray, List.set_cons_zero, List.set_cons_succ]
  refine wpAnyT_takeD (i := 6) (d := some 23) (v := ?_) hO rfl rfl (by kernel_rfl) (fun _ _ _ h => h) (Or.inl ⟨by rfl, ?_⟩) (by exact hHeld) ?_
  rotate_left
  · intro w' hSw
    obtain ⟨_, ⟨z1, z2, z3, z4⟩, ⟨z5, z6⟩⟩ := hSw
    go_simp
    try (with_reducible rfl)
  try simp only [Act.put, List.setIfInBounds_toArray, List.set_cons_zero, List.set_cons_succ]
  refine wpAnyT_takeD (i := 7) (d := some 24) (v := ?_) hO rfl rfl (by kernel_rfl) (fun _ _ _ h => h) (Or.inl ⟨by rfl, ?_⟩) (by exact hHeld) ?_
  rotate_left
  · intro w' hSw
    obtain ⟨_, ⟨z1, z2, z3, z4⟩, ⟨z5, z6⟩⟩ := hSw
    go_simp
    try (with_reducible rfl)
  try simp only [Act.put, List.setIfInBounds_toArray, List.set_cons_zero, List.set_cons_succ]
  refine wpAnyT_takeD (i := 8) (d := some 25) (v := ?_) hO rfl rfl (by kernel_rfl) (fun _ _ _ h => h) (Or.inl ⟨by rfl, ?_⟩) (by exact hHeld) ?_
  rotate_left
  · intro w' hSw
    obtain ⟨_, ⟨z1, z2, z3, z4⟩, ⟨z5, z6⟩⟩ := hSw
    go_simp
    try (with_reducible rfl)
  try simp only [Act.put, List.setIfInBounds_toArray, List.set_cons_zero, List.set_cons_succ]
  refine wpAnyT_takeD (i := 9) (d := some 26) (v := ?_) hO rfl rfl (by kernel_rfl) (fun _ _ _ h => h) (Or.inl ⟨by rfl, ?_⟩) (by exact hHeld) ?_
  rotate_left
  · intro w' hSw
    obtain ⟨_, ⟨z1, z2, z3, z4⟩, ⟨z5, z6⟩⟩ := hSw
    go_simp
    try (with_reducible rfl)
  try simp only [Act.put, List.setIfInBounds_toArray, List.set_cons_zero, List.set_cons_succ]
  clear hHeld
  refine wpAnyT_one (i := 10) rfl (by kernel_rfl) (by rfl) (fun K hK => ?_)
  go_simp
  refine (HC.out _).mono ?_
  rintro e w5 ⟨rfl, e5⟩
  have x1 : Ext Nope (w.alloc (.cells #[.int .i64 c.x, .int .i64 c.y, .int .i64 c.w, .int .i64 c.h] 31)) w5 := ext0 (Ext.refl _ _).drew e5
  clear e5
  try go_simp
  refine hK.out _ _ ⟨x1, SK.out _ x1⟩ (fun hHeld2 => ?_)
  clear hK K hHeld2
  try simp only [Act.put, List.setIfInBounds_toArray, List.set_cons_zero, List.set_cons_succ]
  refine wpAnyT_done (by kernel_rfl) ⟨by kernel_rfl, ?_⟩
  simp only [List.drop_succ_cons, List.drop_zero]
  obtain ⟨⟨z1, z2, z3, z4⟩, ⟨z5, z6⟩⟩ := SK.out _ x1
  have X1 : Ext Nope w w5 := ext0 ((Ext.refl _ _).alloc _) x1
  obtain ⟨X, Y, W, H, hcx, g1, g2, g3, g4⟩ := inB_nat HIN.out
  have HCX := toHid hcx
  rw [hcx] at z1 z2 z3 z4
  simp only at z1 z2 z3 z4
  have hnH : n = H := by have := HNH.out; rw [hcx] at this; simp only at this; omega
  clear hcx
  have k0 : w5.heap[w.heap.size]? = some (.cells #[.int .i64 (X : Int), .int .i64 (Y : Int), .int .i64 (W : Int), .int .i64 (H : Int)] 31 (0, 0)) := by have := (x1.block w.heap.size (by simp) (fun z => z)).trans (heap_alloc_new w _); rw [HCX.out] at this; exact this
  have K0 := toHid k0
  have W64 : W ≤ 64 := by omega
  have hval : validA p.w p.rows.length c xs = allS W xs := by rw [HV0.out, HCX.out]; simp only [Int.toNat_natCast]
  have HVAL := toHid hval
  have HSZ : Hid (∀ k, Foot b rv k → k < w.heap.size) := fun k hk => (RefAt.foot HP.out k hk).2
  have HX1 := toHid X1
  clear k0 hval x1 SK HNH hq1 HNO HV0 X1
  subst hnH
  go_wp2
  go_loop [9] (fun i => ∃ k : Nat, i = .int .i64 k ∧ k ≤ n ∧ allS W (xs.take k) = true) (fun i => n - (intOf i).toNat)
  case atStart => exact ⟨0, rfl, Nat.zero_le _, rfl⟩
  case round =>
    obtain ⟨k, rfl, hk, ha⟩ := hrel
    by_cases hkn : k < n
    · have HA := toHid ha
      have hRd : Reads w5 (.slice av n cap) xs := HR.out.ext0 HX1.out
      obtain ⟨vb, vo, rfl, hvb, hvc⟩ := hRd.at (by omega)
      obtain ⟨x, hx⟩ := some_at (k := k) hkn HN.out
      have cv := hvc k x hx
      have HXX := toHid hx
      have hx64 := hu.at hx
      clear ha hvc hx
      go_wp2
      go_loop [10] (fun i => ∃ j : Nat, i = .int .i64 j ∧ W ≤ j ∧ j ≤ 64 ∧ ∀ m, W ≤ m → m < j → x.testBit m = false) (fun i => 64 - (intOf i).toNat)
      case atStart => exact ⟨W, rfl, Nat.le_refl _, W64, fun m h1 h2 => by omega⟩
      case round =>
        obtain ⟨j, rfl, hj1, hj2, hjz⟩ := hrel
        have HJ := toHid hjz
        clear hjz
        by_cases hj64 : j < 64
        · have hbit := bit_calls x j w5 hx64 hj64
          cases hb : x.testBit j with
          | true =>
            rw [hb] at hbit
            have HB := toHid hbit
            have hbig : ¬ x < 2 ^ W := fun hlt => by rw [bit_lt hlt hj1] at hb; cases hb
            have hall : allS W xs = false := allS_false HXX.out hbig
            have hres : rwriteA p c xs = (1, p) := by unfold rwriteA; rw [if_neg (by rw [HVAL.out, hall]; simp)]
            have HRES := toHid hres
            clear hbit hb hbig hall hres
            go_wp2_with (go_at_call 48; refine HB.out.mono ?_; rintro e w' ⟨rfl, rfl⟩)
            go_ret
            unfold RWriteOf
            rw [HRES.out]
            exact ⟨rfl, HP.out.ext HX1.out (fun _ _ z => z), HX1.out.mono (fun _ z => z.elim)⟩
          | false =>
            rw [hb] at hbit
            have HB := toHid hbit
            have HJ2 : Hid (∀ m, W ≤ m → m < j + 1 → x.testBit m = false) := fun m h1 h2 => by
              by_cases hm : m = j
              · rw [hm]; exact hb
              · exact HJ.out m h1 (by omega)
            clear hbit hb
            go_wp2_with (go_at_call 48; refine HB.out.mono ?_; rintro e w' ⟨rfl, rfl⟩)
            go_round
            case rel => exact ⟨j + 1, by go_num, by omega, by omega, HJ2.out⟩
            case measure => simp [intOf]; omega
        · have hjj : j = 64 := by omega
          subst hjj
          have hsm : x < 2 ^ W := small_of_bits hx64 HJ.out
          have hat := allS_take (W := W) HXX.out
          rw [HA.out, decide_eq_true hsm] at hat
          have HAT := toHid hat
          clear hsm hat
          go_wp2
          go_round
          case rel => exact ⟨k + 1, by go_num, by omega, by rw [HAT.out]; rfl⟩
          case measure => simp [intOf]; omega
    · obtain rfl : n = k := by omega
      rw [List.take_of_length_le (by rw [HN.out]; exact Nat.le_refl _)] at ha
      have HALL : Hid (∀ x ∈ xs, x < 2 ^ W) := fun x hx => by
        have := List.all_eq_true.1 ha x hx
        simpa using this
      obtain ⟨N, hN⟩ : ∃ N, countA (decide (0 ≤ p.left)) p.left n = N := ⟨_, rfl⟩
      have hNn : N ≤ n := by rw [← hN]; unfold countA; split <;> omega
      have hres : rwriteA p c xs = if N = n then (0, ⟨p.w, putN X Y W xs p.rows n, if 0 ≤ p.left then p.left - n else p.left, p.many + 1⟩) else (52, ⟨p.w, putN X Y W xs p.rows N, 0, p.many⟩) := by
        unfold rwriteA
        rw [if_pos ⟨HW0.out, by rw [HVAL.out]; exact ha⟩, HN.out, hN, HCX.out]
        simp only [Int.toNat_natCast]
      have HRES := toHid hres
      have hl1 := HOK.out.l1
      have hl2 := HOK.out.l2
      have hcnt : 0 ≤ p.left → (N : Int) ≤ p.left ∧ (N < n → (N : Int) = p.left) := fun h0 => by
        unfold countA at hN
        rw [if_pos (decide_eq_true h0)] at hN
        omega
      have hcnt2 : p.left < 0 → N = n := fun h0 => by
        unfold countA at hN
        rw [if_neg (by simp; omega)] at hN
        omega
      have HCNT := toHid (show _ ∧ _ from ⟨hcnt, hcnt2⟩)
      obtain ⟨g, hg, hra⟩ : ∃ g, rv = .slice (some ⟨g, 0, none⟩) rn rc ∧ ra = some ⟨g, 0, none⟩ := by
        obtain ⟨a1, a2, e1, _, _, e4⟩ := own_gen HP.out.rows
        obtain ⟨g, e5⟩ := e4 (by rw [HRN.out]; omega)
        rw [HRV.out] at e1 ⊢
        injection e1 with e1 _ _
        have e6 : ra = some ⟨g, 0, none⟩ := by rw [e1, e5]
        exact ⟨g, by rw [e6], e6⟩
      subst hra
      subst hg
      clear ha hN hres hcnt hcnt2 hl1 hl2 hk hkn
      go_wp2
      clear z1 z2 z3 z4 z5 z6
      go_loopw [12] (fun i wr => ∃ k : Nat, i = .int .i64 k ∧ k ≤ N ∧ RefAt wr base b (.slice (some ⟨g, 0, none⟩) rn rc) (refK p X Y W xs k) ∧ Ext (Foot b (.slice (some ⟨g, 0, none⟩) rn rc)) w5 wr) (fun i _ => n - (intOf i).toNat)
      case atStart => exact ⟨0, rfl, Nat.zero_le _, by have := HP.out.ext HX1.out (fun _ _ z => z); unfold refK; simp [putN]; exact this, Ext.refl _ _⟩
      case round =>
        obtain ⟨k, rfl, hk, hO, hE⟩ := hrel
        have hsw : ¬ Foot b (.slice (some ⟨g, 0, none⟩) rn rc) w.heap.size := fun z => absurd (HSZ.out _ z) (Nat.lt_irrefl _)
        have HSW := toHid hsw
        have k8 := (hE.block _ (lt_of_heap K0.out) hsw).trans K0.out
        have y3 : wr.cell? ⟨w.heap.size, 3, none⟩ = some (.int .i64 (n : Int)) := cell_of_blk k8 3
        have y2 : wr.cell? ⟨w.heap.size, 2, none⟩ = some (.int .i64 (W : Int)) := cell_of_blk k8 2
        have c2 : wr.cell? ⟨b, 2, none⟩ = some (.int .i64 (refK p X Y W xs k).left) := cell_of_blk hO.cells 2
        have f2 : wr.frozen? ⟨b, 2, none⟩ = false := free_of_blk hO.cells 2
        have hbl := lt_of_heap hO.cells
        clear k8 hsw
        by_cases hkn : k < n
        · by_cases hkN : k < N
          · have hlz : ((refK p X Y W xs k).left == 0) = false := by
              have h1 := HCNT.out.1
              have h2 := HCNT.out.2
              have h3 := HOK.out.l1
              rw [beq_eq_false_iff_ne]
              unfold refK
              simp only
              split <;> omega
            have hll : -1 ≤ (refK p X Y W xs k).left ∧ (refK p X Y W xs k).left ≤ 9223372036854775807 := by
              have h1 := HCNT.out.1
              have h2 := HOK.out.l1
              have h3 := HOK.out.l2
              unfold refK
              simp only
              split <;> omega
            obtain ⟨lk, hlk⟩ : ∃ lk, (refK p X Y W xs k).left = lk := ⟨_, rfl⟩
            have hO2 : RefAt wr base b (.slice (some ⟨g, 0, none⟩) rn rc) ⟨p.w, putN X Y W xs p.rows k, lk, p.many⟩ := by rw [← hlk]; exact hO
            rw [hlk] at c2 hlz hll
            have hnl : (if 0 < lk then lk - 1 else lk) = (if 0 ≤ p.left then p.left - (k + 1 : Nat) else p.left) := by
              have h1 := HCNT.out.1
              have h2 := HOK.out.l1
              rw [← hlk]
              unfold refK
              simp only
              by_cases h0 : 0 ≤ p.left
              · rw [if_pos h0, if_pos h0, if_pos (by omega)]; omega
              · rw [if_neg h0, if_neg h0, if_neg (by omega)]
            have HNL := toHid hnl
            have HO2 := toHid (show _ ∧ _ from ⟨hO2, hE⟩)
            clear hlk hnl hO2 hO hE
            go_upto_if 71 with fail
            go_cut [] (fun wx => RefAt wx base b (.slice (some ⟨g, 0, none⟩) rn rc) ⟨p.w, putN X Y W xs p.rows k, if 0 ≤ p.left then p.left - (k + 1 : Nat) else p.left, p.many⟩ ∧ Ext (Foot b (.slice (some ⟨g, 0, none⟩) rn rc)) w5 wx)
            case first =>
              by_cases h0 : 0 < lk
              · have hp : decide (0 < lk) = true := decide_eq_true h0
                have hfin := HO2.out.1.put (q := ⟨p.w, putN X Y W xs p.rows k, if 0 ≤ p.left then p.left - (k + 1 : Nat) else p.left, p.many⟩) 2 (.int .i64 (lk - 1)) (by rw [← HNL.out, if_pos h0]; rfl) rfl
                have HFIN := toHid (show _ ∧ _ from ⟨hfin, foot_put HO2.out.2 2 (.int .i64 (lk - 1))⟩)
                clear hfin
                go_wp2
                go_meet
                exact ⟨HFIN.out.1, HFIN.out.2⟩
              · have hp : decide (0 < lk) = false := decide_eq_false h0
                have hfin := HO2.out.1
                have hq := HNL.out
                rw [if_neg h0] at hq
                rw [hq] at hfin
                have HFIN := toHid hfin
                clear hfin hq
                go_wp2
                go_meet
                exact ⟨HFIN.out, HO2.out.2⟩
            case rest =>
              obtain ⟨hO3, hE3⟩ := hcut
              clear c2 f2 hlz hll HO2 HNL y2 y3
              obtain ⟨lk2, hlk2⟩ : ∃ lk2, (if 0 ≤ p.left then p.left - (k + 1 : Nat) else p.left) = lk2 := ⟨_, rfl⟩
              rw [hlk2] at hO3
              have HLK := toHid hlk2
              clear hlk2
              have hRd : Reads wc (.slice av n cap) xs := (HR.out.ext0 HX1.out).ext hE3 hsep
              obtain ⟨vb, vo, rfl, hvb, hvc⟩ := hRd.at (by omega)
              obtain ⟨x, hx⟩ := some_at (k := k) hkn HN.out
              have cv0 := hvc k x hx
              have hx64 := hu.at hx
              have HXX := toHid hx
              have hlk : (putN X Y W xs p.rows k).length = rn := by rw [putN_length, HRN.out]
              obtain ⟨y, hy⟩ := some_at (xs := putN X Y W xs p.rows k) (k := Y + k) (n := rn) (by omega) hlk
              have hXW : X + W ≤ 64 := by have := HOK.out.w; omega
              have hy64 : y < 18446744073709551616 := (putN_u64 (X := X) (Y := Y) (W := W) (xs := xs) (rows := p.rows) HALL.out HOK.out.u hXW k).at hy
              have hself : (putN X Y W xs p.rows k).set (Y + k) y = putN X Y W xs p.rows k := by
                apply List.ext_getElem?
                intro i
                rw [List.getElem?_set]
                by_cases hi : Y + k = i
                · subst hi; rw [if_pos rfl, if_pos (by omega), hy]
                · rw [if_neg hi]
              have hnx : putN X Y W xs p.rows (k + 1) = (putN X Y W xs p.rows k).set (Y + k) (putX X W y x) := by rw [putN, getD_of hy, getD_of hx]
              have HNX := toHid hnx
              have HSF := toHid hself
              have HLEN := toHid hlk
              have hkx : x < 2 ^ W := HALL.out x (List.mem_of_getElem? hx)
              have HKX := toHid hkx
              have hvs : vb < wc.heap.size := hvb
              have hvf : ¬ Foot b (.slice (some ⟨g, 0, none⟩) rn rc) vb := hsep vb rfl
              clear hvc hx hlk hy hself hnx hkx hRd hvb
              go_wp2
              go_loopw [13] (fun i wv => ∃ j : Nat, i = .int .i64 j ∧ j ≤ W ∧ RefAt wv base b (.slice (some ⟨g, 0, none⟩) rn rc) ⟨p.w, (putN X Y W xs p.rows k).set (Y + k) (putX X j y (x % 2 ^ j)), lk2, p.many⟩ ∧ Ext (Foot b (.slice (some ⟨g, 0, none⟩) rn rc)) wc wv) (fun i _ => W - (intOf i).toNat)
              case atStart => exact ⟨0, rfl, Nat.zero_le _, by rw [Nat.pow_zero, Nat.mod_one, putX_zero, HSF.out]; exact hO3, Ext.refl _ _⟩
              case round =>
                obtain ⟨j, rfl, hj, hOj, hEj⟩ := hrel
                have k9 := ((hE3.trans hEj (fun _ _ z => z)).block _ (lt_of_heap K0.out) HSW.out).trans K0.out
                have y2 : wr.cell? ⟨w.heap.size, 2, none⟩ = some (.int .i64 (W : Int)) := cell_of_blk k9 2
                have y1 : wr.cell? ⟨w.heap.size, 1, none⟩ = some (.int .i64 (Y : Int)) := cell_of_blk k9 1
                have y0 : wr.cell? ⟨w.heap.size, 0, none⟩ = some (.int .i64 (X : Int)) := cell_of_blk k9 0
                clear k9
                by_cases hjW : j < W
                · have b1 : wr.cell? ⟨b, 1, none⟩ = some (.slice (some ⟨g, 0, none⟩) rn rc) := cell_of_blk hOj.cells 1
                  have cv : wr.cell? ⟨vb, vo + k, none⟩ = some (.int .u64 (x : Int)) := (World.cell?_of_block (w := wc) (a := ⟨vb, vo + k, none⟩) (hEj.block vb hvs hvf)).trans cv0
                  have hlm : ((putN X Y W xs p.rows k).set (Y + k) (putX X j y (x % 2 ^ j))).length = rn := by rw [List.length_set, HLEN.out]
                  have hcell : ((putN X Y W xs p.rows k).set (Y + k) (putX X j y (x % 2 ^ j)))[Y + k]? = some (putX X j y (x % 2 ^ j)) := by rw [List.getElem?_set_self (by rw [HLEN.out]; omega)]
                  have r1 := RowsAt.cell hOj.rows hcell
                  have fr : wr.frozen? ⟨g, Y + k, none⟩ = false := RowsAt.free hOj.rows (Y + k)
                  have hset : ∀ w9 : World, Ext Nope wr w9 → RefAt (w9.setCell ⟨g, Y + k, none⟩ (.int .u64 ((putX X (j + 1) y (x % 2 ^ (j + 1)) : Nat) : Int))) base b (.slice (some ⟨g, 0, none⟩) rn rc) ⟨p.w, (putN X Y W xs p.rows k).set (Y + k) (putX X (j + 1) y (x % 2 ^ (j + 1))), lk2, p.many⟩ := fun w9 e9 => by
                    have h9 := RefAt.setRow (hOj.ext e9 (fun _ _ z => z)) hlm (Y + k) (by omega) (putX X (j + 1) y (x % 2 ^ (j + 1)))
                    simp only [List.set_set] at h9
                    exact h9
                  have hz64 : putX X j y (x % 2 ^ j) < 18446744073709551616 := putX_lt (Nat.mod_lt _ (Nat.two_pow_pos _)) hy64 (by omega)
                  have hq1 := fun W' => quiet_bit x j W' hx64 (by omega)
                  have hq2 := fun W' => quiet_with (putX X j y (x % 2 ^ j)) (X + j) (x.testBit j) W' hz64 (by omega)
                  rw [putX_step, Int.natCast_add] at hq2
                  have HSET := toHid hset
                  have HQ1 := toHid hq1
                  have HQ2 := toHid hq2
                  have HEJ := toHid hEj
                  obtain ⟨z1, hz1⟩ : ∃ z1, putX X j y (x % 2 ^ j) = z1 := ⟨_, rfl⟩
                  obtain ⟨z2, hz2⟩ : ∃ z2, putX X (j + 1) y (x % 2 ^ (j + 1)) = z2 := ⟨_, rfl⟩
                  rw [hz1] at r1 HQ2
                  rw [hz2] at HSET HQ2
                  have HZ2 := toHid hz2
                  clear hlm hcell hset hz64 hq1 hq2 hOj hEj hz1 hz2
                  go_upto_region 26 with fail
                  clear y2
                  have s1 : IntKind.i64.wrap ((Y : Int) + (k : Int)) = (Y : Int) + (k : Int) := IntWalk.i64_in _ (by omega)
                  have s2 : IntKind.i64.wrap ((X : Int) + (j : Int)) = (X : Int) + (j : Int) := IntWalk.i64_in _ (by omega)
                  have s3 : (0 : Int) ≤ (Y : Int) + (k : Int) := by omega
                  have s4 : (Y : Int) + (k : Int) < (rn : Int) := by omega
                  have s5 : ((Y : Int) + (k : Int)).toNat = Y + k := by omega
                  have s6 : (0 : Int) ≤ (k : Int) := by omega
                  have s7 : (k : Int) < (n : Int) := by omega
                  go_still_tail 29, (by kernel_rfl)
                  still_call (HQ1.out _)
                  still_call (HQ2.out _)
                  refine wpStill_nil ?_
                  change wpList _ _ _ _ _ wr.drew
                  have r1' : wr.drew.cell? ⟨g, Y + k, none⟩ = some (.int .u64 (z1 : Int)) := r1
                  have fr' : wr.drew.frozen? ⟨g, Y + k, none⟩ = false := fr
                  have HS9 := toHid (HSET.out _ (Ext.refl _ _).drew)
                  clear r1 fr b1 cv y0 y1 s1 s2 HQ1 HQ2 HSET
                  go_wp2
                  go_roundw
                  case rel => exact ⟨j + 1, by go_num, by omega, by rw [HZ2.out]; exact HS9.out, HEJ.out.drew.setCell g (Y + k) (fun _ => .inr rfl) _⟩
                  case measure => simp [intOf]; omega
                · obtain rfl : W = j := by omega
                  rw [Nat.mod_eq_of_lt HKX.out, ← HNX.out] at hOj
                  have HFO := toHid (show _ ∧ _ from ⟨hOj, hE3.trans hEj (fun _ _ z => z)⟩)
                  clear hOj hEj
                  go_wp2
                  go_roundw
                  case rel => exact ⟨k + 1, by go_num, by omega, by unfold refK; rw [HLK.out]; exact HFO.out.1, HFO.out.2⟩
                  case measure => simp [intOf]; omega
          · obtain rfl : N = k := by omega
            have h0 : 0 ≤ p.left := by
              have h1 := HCNT.out.2
              omega
            have hz : (refK p X Y W xs N).left = 0 := by
              have h1 := (HCNT.out.1 h0).2 hkn
              unfold refK
              simp only
              rw [if_pos h0]
              omega
            have hw : rwriteA p c xs = (52, refK p X Y W xs N) := by
              rw [HRES.out, if_neg (by omega), show refK p X Y W xs N = ⟨p.w, putN X Y W xs p.rows N, 0, p.many⟩ by unfold refK at hz ⊢; simp only at hz; rw [hz]]
            rw [hz] at c2
            have HWA := toHid hw
            have HFIN := toHid (show _ ∧ _ from ⟨hO, Ext.trans (HX1.out.mono (fun _ z => z.elim)) hE (fun _ _ z => z)⟩)
            clear hw hO hE hz h0
            go_wp2
            go_ret
            unfold RWriteOf
            rw [HWA.out]
            exact ⟨rfl, HFIN.out.1, HFIN.out.2⟩
        · obtain rfl : n = k := by omega
          obtain rfl : N = n := by omega
          have hw : rwriteA p c xs = (0, ⟨p.w, putN X Y W xs p.rows N, if 0 ≤ p.left then p.left - N else p.left, p.many + 1⟩) := by rw [HRES.out, if_pos rfl]
          have HWA := toHid hw
          have hmany : p.many ≤ 1000000 := HOK.out.many
          have c3 : wr.cell? ⟨b, 3, none⟩ = some (.int .i64 (p.many : Int)) := cell_of_blk hO.cells 3
          have f3 : wr.frozen? ⟨b, 3, none⟩ = false := free_of_blk hO.cells 3
          have hfin := hO.put (q := ⟨p.w, putN X Y W xs p.rows N, if 0 ≤ p.left then p.left - N else p.left, p.many + 1⟩) 3 (.int .i64 ((p.many : Int) + 1)) (by simp [refK]) rfl
          have HFIN := toHid (show _ ∧ _ from ⟨hfin, foot_put (Ext.trans (HX1.out.mono (fun _ z => z.elim)) hE (fun _ _ z => z)) 3 (.int .i64 ((p.many : Int) + 1))⟩)
          clear hw hfin hO hE c2 f2
          go_wp2
          go_ret
          unfold RWriteOf
          rw [HWA.out]
          exact ⟨rfl, HFIN.out.1, HFIN.out.2⟩
end Go.Proofs.YtmmcadbkmfjcbaaDoor
