/-
  PanelNone: the walk.
-/
import Derived.Test.YtmmcadbkmfjcbaaDoorF1
import Derived.Test.YtmmcadbkmfjcbaaDoorU0
import Derived.Test.YtmmcadbkmfjcbaaDoorP1
import Derived.Test.YtmmcadbkmfjcbaaDoorG0
import Derived.Laws.BitsLemmas
namespace Go.Proofs.YtmmcadbkmfjcbaaDoor
open Go.RowKit
attribute [local go_sem] alloc_drewN setCell_drewN

theorem i64_and3 (n : Int) : bits .and .i64 n 3 = n % 4 := by
  have h3 : (BitVec.ofInt 64 3).toNat = 2 ^ 2 - 1 := by decide
  have key : (BitVec.ofInt 64 n &&& BitVec.ofInt 64 3).toNat = (n % ((2 ^ 64 : Nat) : Int)).toNat % 2 ^ 2 := by
    rw [BitVec.toNat_and, BitVec.toNat_ofInt, h3, Nat.and_two_pow_sub_one_eq_mod]
  show IntKind.i64.wrap ((BitVec.ofInt 64 n &&& BitVec.ofInt 64 3).toNat : Nat) = n % 4
  rw [key, IntKind.wrap_i64]
  omega

section
open Go.ChangeShapes Go.WideShapes Go.ChangeAt Go.Joins Go.Deep
theorem cells68 : Tryd.prog.cellsOf 68 = 2 := by kernel_rfl
/-- Two whole numbers. -/
theorem open_ints2 {H : Type} {enc : TypeId × Value → H} {W : World} {base b0 : Nat} {spare : Nat → Bool} {held : Bool} {v : Value} {d : DataW H} {p : List MemPlace} (hv : Value.okWide Tryd.prog W .any b0 68 v) (h : DataW.Trod enc Tryd.prog W base spare held 68 v d p) : ∃ a b : Int, (-9223372036854775808 ≤ a ∧ a ≤ 9223372036854775807) ∧ (-9223372036854775808 ≤ b ∧ b ≤ 9223372036854775807) ∧ v = .agg #[.int .i64 a, .int .i64 b] := by
  simp only [Value.okWide, Tryd.underlying68] at hv
  obtain ⟨cs, rfl, hsz, _⟩ := hv
  obtain ⟨c0, c1, rfl⟩ := array2 (hsz.trans cells68)
  obtain ⟨fuel, hf⟩ := h
  obtain ⟨xs, m, _, _, _, hx, hi⟩ := DataW.trod_array Tryd.underlying68 hf
  match xs, hx with
  | [y0, y1], _ =>
    have h0 := hi 0 (by omega)
    have h1 := hi 1 (by omega)
    simp [Value.cells, cells3] at h0 h1
    obtain ⟨a, e0, _, w0⟩ := DataW.trod_int Tryd.underlying3 h0
    obtain ⟨b, e1, _, w1⟩ := DataW.trod_int Tryd.underlying3 h1
    simp at e0 e1
    subst e0 e1
    exact ⟨a, b, bounds_i64 w0, bounds_i64 w1, rfl⟩
end

theorem zero_write (c : R) (xs : List Nat) : writeA ⟨0, [], false, 0, 0⟩ c xs = (1, ⟨0, [], false, 0, 0⟩) := by
  have h : validA 0 ([] : List Nat).length c xs = false := by
    cases hv : validA 0 ([] : List Nat).length c xs with
    | false => rfl
    | true =>
      have hin : inB c 0 ([] : List Nat).length = true := by unfold validA at hv; simp only [Bool.and_eq_true] at hv; exact hv.1
      obtain ⟨X, Y, w, h', e, g1, g2, g3, g4⟩ := inB_nat hin
      simp at g3 g4
      omega
  unfold writeA
  rw [show validA (Pan.mk 0 [] false 0 0).w (Pan.mk 0 [] false 0 0).rows.length c xs = false from h]
  rfl
theorem zero_fail (n : Int) : failA ⟨0, [], false, 0, 0⟩ n = ⟨0, [], false, 0, 0⟩ := rfl
theorem zero_ok : PanOK ⟨0, [], false, 0, 0⟩ := ⟨by simp, by simp, U64.nil, fun h => by simp at h, by simp, by simp, by simp⟩

set_option maxRecDepth 100000 in
set_option maxHeartbeats 8000000 in
/-- abugidalaw33.PanelNone -/
theorem none33_calls {w : World} {c : R} (n0 n1 i2 : Int) (hT : Tab w) (a0 : -9223372036854775808 ≤ n0 ∧ n0 ≤ 9223372036854775807) (a1 : -9223372036854775808 ≤ n1 ∧ n1 ≤ 9223372036854775807) (hc : c.i64) (b1 : -9223372036854775808 ≤ i2) (b2 : i2 ≤ 9223372036854775807) :
    Calls Tryd.prog 10 #[.agg #[.int .i64 n0, .int .i64 n1], c.val, .int .i64 i2] w fun e w' => e = .returned (.bool true) ∧ Ext Nope w w' := by
  have HT := toHid (show _ ∧ _ from ⟨hT, hc⟩)
  obtain ⟨n, hn⟩ : ∃ n : Nat, bits BinOp.and IntKind.i64 c.h 3 = (n : Int) := ⟨(c.h % 4).toNat, by rw [i64_and3]; omega⟩
  have hn3 : n ≤ 3 := by rw [i64_and3] at hn; omega
  have HN := toHid hn
  have HMK := toHid (fun W' => made_all W' n (by omega))
  have HMR := toHid (fun W' => made_rows W' n (by omega))
  clear hT hc hn
  go_enter Tryd.func10, Tryd.ntmps10
  go_wp2_with fail
  have e0 : Ext Nope w ((w.alloc (.cells #[.int .i64 n0, .int .i64 n1] 68)).alloc (.cells #[.int .i64 c.x, .int .i64 c.y, .int .i64 c.w, .int .i64 c.h] 31)) := ((Ext.refl _ _).alloc _).alloc _
  have k3 := (heap_alloc_old (w.alloc (.cells #[.int .i64 n0, .int .i64 n1] 68)) (.cells #[.int .i64 c.x, .int .i64 c.y, .int .i64 c.w, .int .i64 c.h] 31) w.heap.size (by simp)).trans (heap_alloc_new w (.cells #[.int .i64 n0, .int .i64 n1] 68))
  have k4 := heap_alloc_at (w.alloc (.cells #[.int .i64 n0, .int .i64 n1] 68)) (.cells #[.int .i64 c.x, .int .i64 c.y, .int .i64 c.w, .int .i64 c.h] 31) (w.heap.size + 1) (by simp)
  refine (sanity_calls _ (HT.out.1.ext0 e0)).mono ?_
  rintro e w1 ⟨rfl, x1⟩
  have HE1 := toHid (show _ ∧ _ ∧ _ from ⟨ext0 e0 x1, (x1.block _ (lt_of_heap k3) (fun z => z)).trans k3, (x1.block _ (lt_of_heap k4) (fun z => z)).trans k4⟩)
  clear e0 k3 k4 x1
  have c0 := cell_of_blk HE1.out.2.1 0
  have c1 := cell_of_blk HE1.out.2.1 1
  go_wp2_with fail
  by_cases good : 1 ≤ n0 ∧ n0 ≤ 64 ∧ 1 ≤ n1 ∧ n1 ≤ 64
  · obtain ⟨m0, rfl⟩ : ∃ m : Nat, n0 = (m : Int) := ⟨n0.toNat, by omega⟩
    obtain ⟨m1, rfl⟩ : ∃ m : Nat, n1 = (m : Int) := ⟨n1.toNat, by omega⟩
    have g : 1 ≤ m0 ∧ m0 ≤ 64 ∧ 1 ≤ m1 ∧ m1 ≤ 64 := by omega
    refine (new_calls m0 m1 _ g.1 g.2.1 g.2.2.1 g.2.2.2).mono ?_
    rintro e w2 ⟨b, rv, rfl, hp, x2⟩
    have HE2 := toHid (show _ ∧ _ ∧ _ from ⟨ext0 HE1.out.1 x2, (x2.block _ (lt_of_heap HE1.out.2.1) (fun z => z)).trans HE1.out.2.1, (x2.block _ (lt_of_heap HE1.out.2.2) (fun z => z)).trans HE1.out.2.2⟩)
    have HPN := toHid hp
    clear c0 c1 hp x2
    have c0 := cell_of_blk HE2.out.2.1 0
    have c1 := cell_of_blk HE2.out.2.1 1
    have g1 : decide ((1 : Int) ≤ (m0 : Int)) = true := by simp; omega
    have g2 : decide ((m0 : Int) ≤ 64) = true := by simp; omega
    have g3 : decide ((1 : Int) ≤ (m1 : Int)) = true := by simp; omega
    have g4 : decide ((m1 : Int) ≤ 64) = true := by simp; omega
    go_wp2_with fail
    clear g1 g2 g3 g4
    have kz := (heap_alloc_old (w2.alloc (.cells #[.int .i64 0, .slice none 0 0, .bool false, .int .i64 0, .int .i64 0] 70)) (.cells #[.pointer none, .pointer (some ⟨w2.heap.size, 0, none⟩)] 25) w2.heap.size (by simp)).trans (heap_alloc_new w2 (.cells #[.int .i64 0, .slice none 0 0, .bool false, .int .i64 0, .int .i64 0] 70))
    have kb := heap_alloc_at (w2.alloc (.cells #[.int .i64 0, .slice none 0 0, .bool false, .int .i64 0, .int .i64 0] 70)) (.cells #[.pointer none, .pointer (some ⟨w2.heap.size, 0, none⟩)] 25) (w2.heap.size + 1) (by simp)
    have x3 : Ext Nope w2 ((w2.alloc (.cells #[.int .i64 0, .slice none 0 0, .bool false, .int .i64 0, .int .i64 0] 70)).alloc (.cells #[.pointer none, .pointer (some ⟨w2.heap.size, 0, none⟩)] 25)) := ((Ext.refl _ _).alloc _).alloc _
    generalize (w2.alloc (.cells #[.int .i64 0, .slice none 0 0, .bool false, .int .i64 0, .int .i64 0] 70)).alloc (.cells #[.pointer none, .pointer (some ⟨w2.heap.size, 0, none⟩)] 25) = w3 at *
    have pz : PanAt w3 w.heap.size w2.heap.size (.slice none 0 0) ⟨0, [], false, 0, 0⟩ := ⟨kz, World.ownsRow_nil _ _ _ _, HE2.out.1.size, by simp [Value.ownBlock]⟩
    have kb4 := (x3.block _ (lt_of_heap HE2.out.2.2) (fun z => z)).trans HE2.out.2.2
    have hlt : w.heap.size + 1 < w2.heap.size := lt_of_heap HE2.out.2.2
    have HL := toHid (show _ ∧ _ ∧ _ ∧ _ from ⟨pz, kb, kb4, x3⟩)
    clear kz kb x3 pz kb4 c0 c1
    go_loopw [43] (fun i wr => ∃ k : Nat, i = .int .i64 k ∧ k ≤ 2 ∧ PanAt wr w.heap.size w2.heap.size (.slice none 0 0) ⟨0, [], false, 0, 0⟩ ∧ Ext (· = w2.heap.size) w3 wr) (fun i _ => 2 - (intOf i).toNat)
    case atStart => exact ⟨0, rfl, by omega, HL.out.1, Ext.refl _ _⟩
    case round =>
      obtain ⟨k, rfl, hk, hz, hE⟩ := hrel
      rename World => wo
      have kb := (hE.block _ (lt_of_heap HL.out.2.1) (fun z => by have z : w2.heap.size + 1 = w2.heap.size := z; omega)).trans HL.out.2.1
      have HQ := toHid (show _ ∧ _ from ⟨hz, hE⟩)
      clear hz hE
      rcases (show k = 0 ∨ k = 1 ∨ k = 2 by omega) with rfl | rfl | rfl
      · have c0 := cell_of_blk kb 0
        clear kb
        go_wp2_with fail
        refine (fail_nil _ i2).mono ?_
        rintro e w4 ⟨rfl, rfl⟩
        clear c0
        go_upto_region 9 with fail
        have k4q := (HQ.out.2.block (w.heap.size + 1) (by have := lt_of_heap HL.out.2.2.1; exact this) (fun z => by have z : w.heap.size + 1 = w2.heap.size := z; omega)).trans HL.out.2.2.1
        have SK : Hid (∀ w', Ext (· = w2.heap.size) wo w' → w'.cell? ⟨w.heap.size + 1, 0, none⟩ = some (.int .i64 c.x) ∧ w'.cell? ⟨w.heap.size + 1, 1, none⟩ = some (.int .i64 c.y) ∧ w'.cell? ⟨w.heap.size + 1, 2, none⟩ = some (.int .i64 c.w) ∧ w'.cell? ⟨w.heap.size + 1, 3, none⟩ = some (.int .i64 c.h)) := fun w' e => by
          have kk := (e.block _ (lt_of_heap k4q) (fun z => by have z : w.heap.size + 1 = w2.heap.size := z; omega)).trans k4q
          exact ⟨cell_of_blk kk 0, cell_of_blk kk 1, cell_of_blk kk 2, cell_of_blk kk 3⟩
        clear k4q
        refine wp_region_head 6 (fun w' => Ext (· = w2.heap.size) wo w' ∧ w'.cell? ⟨w.heap.size + 1, 0, none⟩ = some (.int .i64 c.x) ∧ w'.cell? ⟨w.heap.size + 1, 1, none⟩ = some (.int .i64 c.y) ∧ w'.cell? ⟨w.heap.size + 1, 2, none⟩ = some (.int .i64 c.w) ∧ w'.cell? ⟨w.heap.size + 1, 3, none⟩ = some (.int .i64 c.h)) (by kernel_rfl) (by kernel_rfl) ⟨(Ext.refl _ _).drew, SK.out _ (Ext.refl _ _).drew⟩ (fun hO hHeld => ?_)
        have hn := HN.out
        refine wpAnyT_takeD (i := 0) (d := some 50) (v := ?_) hO rfl rfl (by kernel_rfl) (fun _ _ _ h => h) (Or.inl ⟨by rfl, ?_⟩) (by exact hHeld) ?_
        rotate_left
        · intro w' hSw
          obtain ⟨_, z1, z2, z3, z4⟩ := hSw
          go_simp
          try (with_reducible rfl)
        try simp only [Act.put, List.setIfInBounds_toArray, List.set_cons_zero, List.set_cons_succ]
        refine wpAnyT_takeD (i := 1) (d := some 51) (v := ?_) hO rfl rfl (by kernel_rfl) (fun _ _ _ h => h) (Or.inl ⟨by rfl, ?_⟩) (by exact hHeld) ?_
        rotate_left
        · intro w' hSw
          obtain ⟨_, z1, z2, z3, z4⟩ := hSw
          go_simp
          try (with_reducible rfl)
        try simp only [Act.put, List.setIfInBounds_toArray, List.set_cons_zero, List.set_cons_succ]
        refine wpAnyT_takeD (i := 2) (d := some 52) (v := ?_) hO rfl rfl (by kernel_rfl) (fun _ _ _ h => h) (Or.inl ⟨by rfl, ?_⟩) (by exact hHeld) ?_
        rotate_left
        · intro w' hSw
          obtain ⟨_, z1, z2, z3, z4⟩ := hSw
          go_simp
          try (with_reducible rfl)
        try simp only [Act.put, List.setIfInBounds_toArray, List.set_cons_zero, List.set_cons_succ]
        refine wpAnyT_takeD (i := 3) (d := some 53) (v := ?_) hO rfl rfl (by kernel_rfl) (fun _ _ _ h => h) (Or.inl ⟨by rfl, ?_⟩) (by exact hHeld) ?_
        rotate_left
        · intro w' hSw
          obtain ⟨_, z1, z2, z3, z4⟩ := hSw
          go_simp
          try (with_reducible rfl)
        try simp only [Act.put, List.setIfInBounds_toArray, List.set_cons_zero, List.set_cons_succ]
        refine wpAnyT_takeD (i := 4) (d := some 54) (v := ?_) hO rfl rfl (by kernel_rfl) (fun _ _ _ h => h) (Or.inl ⟨by rfl, ?_⟩) (by exact hHeld) ?_
        rotate_left
        · intro w' hSw
          obtain ⟨_, z1, z2, z3, z4⟩ := hSw
          go_simp
          try (with_reducible rfl)
        try simp only [Act.put, List.setIfInBounds_toArray, List.set_cons_zero, List.set_cons_succ]
        clear hHeld hn
        refine wpAnyT_one (i := 5) rfl (by kernel_rfl) (by rfl) (fun K hK => ?_)
        have hmk := HMK.out
        go_simp
        have y5 : Ext (· = w2.heap.size) wo (wo.alloc (.cells (madeCells #[.int .u64 0] n) 63)).drew := ((Ext.refl _ _).alloc _).drew
        refine hK.out _ _ ⟨y5, SK.out _ y5⟩ (fun hHeld => ?_)
        clear hK K hmk hHeld SK
        have H5 := toHid (show _ ∧ _ ∧ _ from ⟨own_ext (HMR.out wo) (Ext.refl Nope _).drew (fun _ _ z => z), ((Ext.refl Nope wo).alloc (.cells (madeCells #[.int .u64 0] n) 63)).drew, y5⟩)
        clear y5
        generalize (wo.alloc (.cells (madeCells #[.int .u64 0] n) 63)).drew = w5 at *
        try simp only [Act.put, List.setIfInBounds_toArray, List.set_cons_zero, List.set_cons_succ]
        refine wpAnyT_done (by kernel_rfl) ⟨by kernel_rfl, ?_⟩
        simp only [List.drop_succ_cons, List.drop_zero]
        go_wp2_with fail
        refine (write_nil _ c _ n n).mono ?_
        rintro e w6 ⟨rfl, x6⟩
        have H6 := toHid (show _ ∧ _ from ⟨(HQ.out.1.ext H5.out.2.1 (fun _ _ z => z)).ext x6 (fun _ _ z => z), (HQ.out.2.trans H5.out.2.2 (fun _ _ z => z)).trans x6 (fun _ _ z => False.elim z)⟩)
        clear x6
        go_wp2_with fail
        refine (pixels_nil _).mono ?_
        rintro e w7 ⟨u7, rfl, r7, x7⟩
        have H7 := toHid (show _ ∧ _ from ⟨H6.out.1.ext x7 (fun _ _ z => z), H6.out.2.trans x7 (fun _ _ z => False.elim z)⟩)
        obtain ⟨pa7, pc7, hpv7, _⟩ := own_gen r7
        simp only [List.length_nil] at hpv7
        subst hpv7
        clear r7 x7
        go_wp2_with fail
        refine (updates_nil _).mono ?_
        rintro e w8 ⟨rfl, rfl⟩
        try simp only [Nat.cast_zero, Int.natCast_zero]
        go_wp2
        go_roundw
        case rel => exact ⟨1, by go_num, by omega, H7.out.1, H7.out.2⟩
        case measure => simp [intOf]
      · have c1 := cell_of_blk kb 1
        clear kb
        go_wp2_with fail
        refine (fail_calls HQ.out.1 i2).mono ?_
        rw [zero_fail]
        rintro e w4 ⟨rfl, p4, x4⟩
        have HQ := toHid (show _ ∧ _ from ⟨p4, HQ.out.2.trans x4 (fun i _ z => by rcases z with z | z; exact z; simp [Value.ownBlock] at z)⟩)
        clear c1 p4 x4
        go_upto_region 9 with fail
        have k4q := (HQ.out.2.block (w.heap.size + 1) (by have := lt_of_heap HL.out.2.2.1; exact this) (fun z => by have z : w.heap.size + 1 = w2.heap.size := z; omega)).trans HL.out.2.2.1
        have SK : Hid (∀ w', Ext (· = w2.heap.size) w4 w' → w'.cell? ⟨w.heap.size + 1, 0, none⟩ = some (.int .i64 c.x) ∧ w'.cell? ⟨w.heap.size + 1, 1, none⟩ = some (.int .i64 c.y) ∧ w'.cell? ⟨w.heap.size + 1, 2, none⟩ = some (.int .i64 c.w) ∧ w'.cell? ⟨w.heap.size + 1, 3, none⟩ = some (.int .i64 c.h)) := fun w' e => by
          have kk := (e.block _ (lt_of_heap k4q) (fun z => by have z : w.heap.size + 1 = w2.heap.size := z; omega)).trans k4q
          exact ⟨cell_of_blk kk 0, cell_of_blk kk 1, cell_of_blk kk 2, cell_of_blk kk 3⟩
        clear k4q
        refine wp_region_head 6 (fun w' => Ext (· = w2.heap.size) w4 w' ∧ w'.cell? ⟨w.heap.size + 1, 0, none⟩ = some (.int .i64 c.x) ∧ w'.cell? ⟨w.heap.size + 1, 1, none⟩ = some (.int .i64 c.y) ∧ w'.cell? ⟨w.heap.size + 1, 2, none⟩ = some (.int .i64 c.w) ∧ w'.cell? ⟨w.heap.size + 1, 3, none⟩ = some (.int .i64 c.h)) (by kernel_rfl) (by kernel_rfl) ⟨(Ext.refl _ _).drew, SK.out _ (Ext.refl _ _).drew⟩ (fun hO hHeld => ?_)
        have hn := HN.out
        refine wpAnyT_takeD (i := 0) (d := some 50) (v := ?_) hO rfl rfl (by kernel_rfl) (fun _ _ _ h => h) (Or.inl ⟨by rfl, ?_⟩) (by exact hHeld) ?_
        rotate_left
        · intro w' hSw
          obtain ⟨_, z1, z2, z3, z4⟩ := hSw
          go_simp
          try (with_reducible rfl)
        try simp only [Act.put, List.setIfInBounds_toArray, List.set_cons_zero, List.set_cons_succ]
        refine wpAnyT_takeD (i := 1) (d := some 51) (v := ?_) hO rfl rfl (by kernel_rfl) (fun _ _ _ h => h) (Or.inl ⟨by rfl, ?_⟩) (by exact hHeld) ?_
        rotate_left
        · intro w' hSw
          obtain ⟨_, z1, z2, z3, z4⟩ := hSw
          go_simp
          try (with_reducible rfl)
        try simp only [Act.put, List.setIfInBounds_toArray, List.set_cons_zero, List.set_cons_succ]
        refine wpAnyT_takeD (i := 2) (d := some 52) (v := ?_) hO rfl rfl (by kernel_rfl) (fun _ _ _ h => h) (Or.inl ⟨by rfl, ?_⟩) (by exact hHeld) ?_
        rotate_left
        · intro w' hSw
          obtain ⟨_, z1, z2, z3, z4⟩ := hSw
          go_simp
          try (with_reducible rfl)
        try simp only [Act.put, List.setIfInBounds_toArray, List.set_cons_zero, List.set_cons_succ]
        refine wpAnyT_takeD (i := 3) (d := some 53) (v := ?_) hO rfl rfl (by kernel_rfl) (fun _ _ _ h => h) (Or.inl ⟨by rfl, ?_⟩) (by exact hHeld) ?_
        rotate_left
        · intro w' hSw
          obtain ⟨_, z1, z2, z3, z4⟩ := hSw
          go_simp
          try (with_reducible rfl)
        try simp only [Act.put, List.setIfInBounds_toArray, List.set_cons_zero, List.set_cons_succ]
        refine wpAnyT_takeD (i := 4) (d := some 54) (v := ?_) hO rfl rfl (by kernel_rfl) (fun _ _ _ h => h) (Or.inl ⟨by rfl, ?_⟩) (by exact hHeld) ?_
        rotate_left
        · intro w' hSw
          obtain ⟨_, z1, z2, z3, z4⟩ := hSw
          go_simp
          try (with_reducible rfl)
        try simp only [Act.put, List.setIfInBounds_toArray, List.set_cons_zero, List.set_cons_succ]
        clear hHeld hn
        refine wpAnyT_one (i := 5) rfl (by kernel_rfl) (by rfl) (fun K hK => ?_)
        have hmk := HMK.out
        go_simp
        have y5 : Ext (· = w2.heap.size) w4 (w4.alloc (.cells (madeCells #[.int .u64 0] n) 63)).drew := ((Ext.refl _ _).alloc _).drew
        refine hK.out _ _ ⟨y5, SK.out _ y5⟩ (fun hHeld => ?_)
        clear hK K hmk hHeld SK
        have H5 := toHid (show _ ∧ _ ∧ _ from ⟨own_ext (HMR.out w4) (Ext.refl Nope _).drew (fun _ _ z => z), ((Ext.refl Nope w4).alloc (.cells (madeCells #[.int .u64 0] n) 63)).drew, y5⟩)
        clear y5
        generalize (w4.alloc (.cells (madeCells #[.int .u64 0] n) 63)).drew = w5 at *
        try simp only [Act.put, List.setIfInBounds_toArray, List.set_cons_zero, List.set_cons_succ]
        refine wpAnyT_done (by kernel_rfl) ⟨by kernel_rfl, ?_⟩
        simp only [List.drop_succ_cons, List.drop_zero]
        go_wp2_with fail
        refine (write_calls (c := c) (HQ.out.1.ext H5.out.2.1 (fun _ _ z => z)) zero_ok (RowsAt.reads H5.out.1) (fun g hg z => by have h1 : w4.heap.size ≤ g := (World.ownsRow.lt H5.out.1 g hg).1; have h2 := (HQ.out.1.foot g z).2; omega) (fun x hx => by have := List.eq_of_mem_replicate hx; omega) HT.out.2 (by rw [List.length_replicate]; omega)).mono ?_
        rw [zero_write]
        rintro e w6 ⟨rfl, p6, x6⟩
        have H6 := toHid (show _ ∧ _ from ⟨p6, (HQ.out.2.trans H5.out.2.2 (fun _ _ z => z)).trans x6 (fun i _ z => by rcases z with z | z; exact z; simp [Value.ownBlock] at z)⟩)
        clear x6 p6
        go_wp2_with fail
        refine (pixels_calls H6.out.1 (by simp)).mono ?_
        rintro e w7 ⟨u7, rfl, r7, x7⟩
        have H7 := toHid (show _ ∧ _ from ⟨H6.out.1.ext x7 (fun _ _ z => z), H6.out.2.trans x7 (fun _ _ z => False.elim z)⟩)
        obtain ⟨pa7, pc7, hpv7, _⟩ := own_gen r7
        simp only [List.length_nil] at hpv7
        subst hpv7
        clear r7 x7
        go_wp2_with fail
        refine (updates_calls H7.out.1).mono ?_
        rintro e w8 ⟨rfl, rfl⟩
        try simp only [Nat.cast_zero, Int.natCast_zero]
        go_wp2
        go_roundw
        case rel => exact ⟨2, by go_num, by omega, H7.out.1, H7.out.2⟩
        case measure => simp [intOf]
      · have HX : Hid (Ext Nope w wo) := (ext0 HE2.out.1 HL.out.2.2.2).trans HQ.out.2 (fun i hi z => absurd (show i = w2.heap.size from z) (by omega))
        have k3 := (HQ.out.2.block w.heap.size (by have := HL.out.2.2.2.size; omega) (fun z => by have z : w.heap.size = w2.heap.size := z; omega)).trans ((HL.out.2.2.2.block _ (lt_of_heap HE2.out.2.1) (fun z => z)).trans HE2.out.2.1)
        have hpn : Hid (PanAt wo w1.heap.size b rv ⟨m0, List.replicate m1 0, false, 0, 0⟩) := (HPN.out.ext HL.out.2.2.2 (fun _ _ z => z)).ext HQ.out.2 (fun k hk z => by have h := (HPN.out.foot k hk).2; have z : k = w2.heap.size := z; omega)
        have hrl : Hid ((List.replicate m1 0).length ≤ 64) := by unfold Hid; rw [List.length_replicate]; omega
        go_wp2_with fail
        refine (pixels_calls hpn.out hrl.out).mono ?_
        rintro e w5 ⟨u5, rfl, r5, x5⟩
        obtain ⟨pa5, pc5, hpv5, hpc5, hpm5, hpg5⟩ := own_gen r5
        simp only [List.length_replicate] at hpv5 hpg5 hpc5
        obtain ⟨gg, rfl⟩ := hpg5 (by omega)
        subst hpv5
        have c1 : w5.cell? ⟨w.heap.size, 1, none⟩ = some (.int .i64 (m1 : Int)) := cell_of_blk ((x5.block _ (lt_of_heap k3) (fun z => z)).trans k3) 1
        have hgg : wo.heap.size ≤ gg := (World.ownsRow.lt r5 gg (by simp [Value.ownBlock])).1
        have d0 : w5.cell? ⟨gg, 0, none⟩ = some (.int .u64 0) := RowsAt.cell r5 (k := 0) (x := 0) (by rw [List.getElem?_replicate, if_pos (by omega)])
        have f0 : w5.frozen? ⟨gg, 0, none⟩ = false := RowsAt.free r5 0
        have s1 : (0 : Int) < (m1 : Int) := by omega
        have H5 := toHid (show _ ∧ _ from ⟨hpn.out.ext x5 (fun _ _ z => z), ext0 HX.out x5⟩)
        clear r5 x5 k3
        go_wp2_with fail
        have x6 : Ext (· = gg) w5 (w5.setCell ⟨gg, 0, none⟩ (.int .u64 1)) := (Ext.refl (fun j => j = gg) w5).setCell gg 0 (fun _ => rfl) (.int .u64 1)
        have H6 := toHid (show _ ∧ _ from ⟨H5.out.1.ext x6 (fun k hk z => by have h := (hpn.out.foot k hk).2; have z : k = gg := z; omega), H5.out.2.trans x6 (fun i hi z => absurd (show i = gg from z) (by have := HX.out.size; omega))⟩)
        clear x6 c1 d0 f0
        generalize w5.setCell ⟨gg, 0, none⟩ (.int .u64 1) = w6 at *
        try go_wp2_with fail
        refine (pixels_calls H6.out.1 hrl.out).mono ?_
        rintro e w7 ⟨u7, rfl, r7, x7⟩
        obtain ⟨pa7, pc7, hpv7, hpc7, hpm7, hpg7⟩ := own_gen r7
        simp only [List.length_replicate] at hpv7 hpg7 hpc7
        obtain ⟨g7, rfl⟩ := hpg7 (by omega)
        subst hpv7
        have d0 : w7.cell? ⟨g7, 0, none⟩ = some (.int .u64 0) := RowsAt.cell r7 (k := 0) (x := 0) (by rw [List.getElem?_replicate, if_pos (by omega)])
        have H7 : Hid (Ext Nope w w7) := ext0 H6.out.2 x7
        clear r7 x7
        go_wp2
        go_ret
        exact ⟨rfl, H7.out⟩
  · refine (new_none n0 n1 _ (by omega)).mono ?_
    rintro e w2 ⟨rfl, rfl⟩
    have g1 : (n0 < 1) ∨ (1 ≤ n0 ∧ 64 < n0) ∨ (1 ≤ n0 ∧ n0 ≤ 64 ∧ n1 < 1) ∨ (1 ≤ n0 ∧ n0 ≤ 64 ∧ 1 ≤ n1 ∧ 64 < n1) := by omega
    rcases g1 with g1 | g1 | g1 | g1
    · have g2 : decide ((1 : Int) ≤ n0) = false := by simp; omega
      go_wp2_with fail
      clear g1 g2
      have kz := (heap_alloc_old (w1.alloc (.cells #[.int .i64 0, .slice none 0 0, .bool false, .int .i64 0, .int .i64 0] 70)) (.cells #[.pointer none, .pointer (some ⟨w1.heap.size, 0, none⟩)] 25) w1.heap.size (by simp)).trans (heap_alloc_new w1 (.cells #[.int .i64 0, .slice none 0 0, .bool false, .int .i64 0, .int .i64 0] 70))
      have kb := heap_alloc_at (w1.alloc (.cells #[.int .i64 0, .slice none 0 0, .bool false, .int .i64 0, .int .i64 0] 70)) (.cells #[.pointer none, .pointer (some ⟨w1.heap.size, 0, none⟩)] 25) (w1.heap.size + 1) (by simp)
      have x3 : Ext Nope w1 ((w1.alloc (.cells #[.int .i64 0, .slice none 0 0, .bool false, .int .i64 0, .int .i64 0] 70)).alloc (.cells #[.pointer none, .pointer (some ⟨w1.heap.size, 0, none⟩)] 25)) := ((Ext.refl _ _).alloc _).alloc _
      generalize (w1.alloc (.cells #[.int .i64 0, .slice none 0 0, .bool false, .int .i64 0, .int .i64 0] 70)).alloc (.cells #[.pointer none, .pointer (some ⟨w1.heap.size, 0, none⟩)] 25) = w3 at *
      have pz : PanAt w3 w.heap.size w1.heap.size (.slice none 0 0) ⟨0, [], false, 0, 0⟩ := ⟨kz, World.ownsRow_nil _ _ _ _, HE1.out.1.size, by simp [Value.ownBlock]⟩
      have kb4 := (x3.block _ (lt_of_heap HE1.out.2.2) (fun z => z)).trans HE1.out.2.2
      have hlt : w.heap.size + 1 < w1.heap.size := lt_of_heap HE1.out.2.2
      have HL := toHid (show _ ∧ _ ∧ _ ∧ _ from ⟨pz, kb, kb4, x3⟩)
      clear kz kb x3 pz kb4 c0 c1
      go_loopw [43] (fun i wr => ∃ k : Nat, i = .int .i64 k ∧ k ≤ 2 ∧ PanAt wr w.heap.size w1.heap.size (.slice none 0 0) ⟨0, [], false, 0, 0⟩ ∧ Ext (· = w1.heap.size) w3 wr) (fun i _ => 2 - (intOf i).toNat)
      case atStart => exact ⟨0, rfl, by omega, HL.out.1, Ext.refl _ _⟩
      case round =>
        obtain ⟨k, rfl, hk, hz, hE⟩ := hrel
        rename World => wo
        have kb := (hE.block _ (lt_of_heap HL.out.2.1) (fun z => by have z : w1.heap.size + 1 = w1.heap.size := z; omega)).trans HL.out.2.1
        have HQ := toHid (show _ ∧ _ from ⟨hz, hE⟩)
        clear hz hE
        rcases (show k = 0 ∨ k = 1 ∨ k = 2 by omega) with rfl | rfl | rfl
        · have c0 := cell_of_blk kb 0
          clear kb
          go_wp2_with fail
          refine (fail_nil _ i2).mono ?_
          rintro e w4 ⟨rfl, rfl⟩
          clear c0
          go_upto_region 9 with fail
          have k4q := (HQ.out.2.block (w.heap.size + 1) (by have := lt_of_heap HL.out.2.2.1; exact this) (fun z => by have z : w.heap.size + 1 = w1.heap.size := z; omega)).trans HL.out.2.2.1
          have SK : Hid (∀ w', Ext (· = w1.heap.size) wo w' → w'.cell? ⟨w.heap.size + 1, 0, none⟩ = some (.int .i64 c.x) ∧ w'.cell? ⟨w.heap.size + 1, 1, none⟩ = some (.int .i64 c.y) ∧ w'.cell? ⟨w.heap.size + 1, 2, none⟩ = some (.int .i64 c.w) ∧ w'.cell? ⟨w.heap.size + 1, 3, none⟩ = some (.int .i64 c.h)) := fun w' e => by
            have kk := (e.block _ (lt_of_heap k4q) (fun z => by have z : w.heap.size + 1 = w1.heap.size := z; omega)).trans k4q
            exact ⟨cell_of_blk kk 0, cell_of_blk kk 1, cell_of_blk kk 2, cell_of_blk kk 3⟩
          clear k4q
          refine wp_region_head 6 (fun w' => Ext (· = w1.heap.size) wo w' ∧ w'.cell? ⟨w.heap.size + 1, 0, none⟩ = some (.int .i64 c.x) ∧ w'.cell? ⟨w.heap.size + 1, 1, none⟩ = some (.int .i64 c.y) ∧ w'.cell? ⟨w.heap.size + 1, 2, none⟩ = some (.int .i64 c.w) ∧ w'.cell? ⟨w.heap.size + 1, 3, none⟩ = some (.int .i64 c.h)) (by kernel_rfl) (by kernel_rfl) ⟨(Ext.refl _ _).drew, SK.out _ (Ext.refl _ _).drew⟩ (fun hO hHeld => ?_)
          have hn := HN.out
          refine wpAnyT_takeD (i := 0) (d := some 50) (v := ?_) hO rfl rfl (by kernel_rfl) (fun _ _ _ h => h) (Or.inl ⟨by rfl, ?_⟩) (by exact hHeld) ?_
          rotate_left
          · intro w' hSw
            obtain ⟨_, z1, z2, z3, z4⟩ := hSw
            go_simp
            try (with_reducible rfl)
          try simp only [Act.put, List.setIfInBounds_toArray, List.set_cons_zero, List.set_cons_succ]
          refine wpAnyT_takeD (i := 1) (d := some 51) (v := ?_) hO rfl rfl (by kernel_rfl) (fun _ _ _ h => h) (Or.inl ⟨by rfl, ?_⟩) (by exact hHeld) ?_
          rotate_left
          · intro w' hSw
            obtain ⟨_, z1, z2, z3, z4⟩ := hSw
            go_simp
            try (with_reducible rfl)
          try simp only [Act.put, List.setIfInBounds_toArray, List.set_cons_zero, List.set_cons_succ]
          refine wpAnyT_takeD (i := 2) (d := some 52) (v := ?_) hO rfl rfl (by kernel_rfl) (fun _ _ _ h => h) (Or.inl ⟨by rfl, ?_⟩) (by exact hHeld) ?_
          rotate_left
          · intro w' hSw
            obtain ⟨_, z1, z2, z3, z4⟩ := hSw
            go_simp
            try (with_reducible rfl)
          try simp only [Act.put, List.setIfInBounds_toArray, List.set_cons_zero, List.set_cons_succ]
          refine wpAnyT_takeD (i := 3) (d := some 53) (v := ?_) hO rfl rfl (by kernel_rfl) (fun _ _ _ h => h) (Or.inl ⟨by rfl, ?_⟩) (by exact hHeld) ?_
          rotate_left
          · intro w' hSw
            obtain ⟨_, z1, z2, z3, z4⟩ := hSw
            go_simp
            try (with_reducible rfl)
          try simp only [Act.put, List.setIfInBounds_toArray, List.set_cons_zero, List.set_cons_succ]
          refine wpAnyT_takeD (i := 4) (d := some 54) (v := ?_) hO rfl rfl (by kernel_rfl) (fun _ _ _ h => h) (Or.inl ⟨by rfl, ?_⟩) (by exact hHeld) ?_
          rotate_left
          · intro w' hSw
            obtain ⟨_, z1, z2, z3, z4⟩ := hSw
            go_simp
            try (with_reducible rfl)
          try simp only [Act.put, List.setIfInBounds_toArray, List.set_cons_zero, List.set_cons_succ]
          clear hHeld hn
          refine wpAnyT_one (i := 5) rfl (by kernel_rfl) (by rfl) (fun K hK => ?_)
          have hmk := HMK.out
          go_simp
          have y5 : Ext (· = w1.heap.size) wo (wo.alloc (.cells (madeCells #[.int .u64 0] n) 63)).drew := ((Ext.refl _ _).alloc _).drew
          refine hK.out _ _ ⟨y5, SK.out _ y5⟩ (fun hHeld => ?_)
          clear hK K hmk hHeld SK
          have H5 := toHid (show _ ∧ _ ∧ _ from ⟨own_ext (HMR.out wo) (Ext.refl Nope _).drew (fun _ _ z => z), ((Ext.refl Nope wo).alloc (.cells (madeCells #[.int .u64 0] n) 63)).drew, y5⟩)
          clear y5
          generalize (wo.alloc (.cells (madeCells #[.int .u64 0] n) 63)).drew = w5 at *
          try simp only [Act.put, List.setIfInBounds_toArray, List.set_cons_zero, List.set_cons_succ]
          refine wpAnyT_done (by kernel_rfl) ⟨by kernel_rfl, ?_⟩
          simp only [List.drop_succ_cons, List.drop_zero]
          go_wp2_with fail
          refine (write_nil _ c _ n n).mono ?_
          rintro e w6 ⟨rfl, x6⟩
          have H6 := toHid (show _ ∧ _ from ⟨(HQ.out.1.ext H5.out.2.1 (fun _ _ z => z)).ext x6 (fun _ _ z => z), (HQ.out.2.trans H5.out.2.2 (fun _ _ z => z)).trans x6 (fun _ _ z => False.elim z)⟩)
          clear x6
          go_wp2_with fail
          refine (pixels_nil _).mono ?_
          rintro e w7 ⟨u7, rfl, r7, x7⟩
          have H7 := toHid (show _ ∧ _ from ⟨H6.out.1.ext x7 (fun _ _ z => z), H6.out.2.trans x7 (fun _ _ z => False.elim z)⟩)
          obtain ⟨pa7, pc7, hpv7, _⟩ := own_gen r7
          simp only [List.length_nil] at hpv7
          subst hpv7
          clear r7 x7
          go_wp2_with fail
          refine (updates_nil _).mono ?_
          rintro e w8 ⟨rfl, rfl⟩
          try simp only [Nat.cast_zero, Int.natCast_zero]
          go_wp2
          go_roundw
          case rel => exact ⟨1, by go_num, by omega, H7.out.1, H7.out.2⟩
          case measure => simp [intOf]
        · have c1 := cell_of_blk kb 1
          clear kb
          go_wp2_with fail
          refine (fail_calls HQ.out.1 i2).mono ?_
          rw [zero_fail]
          rintro e w4 ⟨rfl, p4, x4⟩
          have HQ := toHid (show _ ∧ _ from ⟨p4, HQ.out.2.trans x4 (fun i _ z => by rcases z with z | z; exact z; simp [Value.ownBlock] at z)⟩)
          clear c1 p4 x4
          go_upto_region 9 with fail
          have k4q := (HQ.out.2.block (w.heap.size + 1) (by have := lt_of_heap HL.out.2.2.1; exact this) (fun z => by have z : w.heap.size + 1 = w1.heap.size := z; omega)).trans HL.out.2.2.1
          have SK : Hid (∀ w', Ext (· = w1.heap.size) w4 w' → w'.cell? ⟨w.heap.size + 1, 0, none⟩ = some (.int .i64 c.x) ∧ w'.cell? ⟨w.heap.size + 1, 1, none⟩ = some (.int .i64 c.y) ∧ w'.cell? ⟨w.heap.size + 1, 2, none⟩ = some (.int .i64 c.w) ∧ w'.cell? ⟨w.heap.size + 1, 3, none⟩ = some (.int .i64 c.h)) := fun w' e => by
            have kk := (e.block _ (lt_of_heap k4q) (fun z => by have z : w.heap.size + 1 = w1.heap.size := z; omega)).trans k4q
            exact ⟨cell_of_blk kk 0, cell_of_blk kk 1, cell_of_blk kk 2, cell_of_blk kk 3⟩
          clear k4q
          refine wp_region_head 6 (fun w' => Ext (· = w1.heap.size) w4 w' ∧ w'.cell? ⟨w.heap.size + 1, 0, none⟩ = some (.int .i64 c.x) ∧ w'.cell? ⟨w.heap.size + 1, 1, none⟩ = some (.int .i64 c.y) ∧ w'.cell? ⟨w.heap.size + 1, 2, none⟩ = some (.int .i64 c.w) ∧ w'.cell? ⟨w.heap.size + 1, 3, none⟩ = some (.int .i64 c.h)) (by kernel_rfl) (by kernel_rfl) ⟨(Ext.refl _ _).drew, SK.out _ (Ext.refl _ _).drew⟩ (fun hO hHeld => ?_)
          have hn := HN.out
          refine wpAnyT_takeD (i := 0) (d := some 50) (v := ?_) hO rfl rfl (by kernel_rfl) (fun _ _ _ h => h) (Or.inl ⟨by rfl, ?_⟩) (by exact hHeld) ?_
          rotate_left
          · intro w' hSw
            obtain ⟨_, z1, z2, z3, z4⟩ := hSw
            go_simp
            try (with_reducible rfl)
          try simp only [Act.put, List.setIfInBounds_toArray, List.set_cons_zero, List.set_cons_succ]
          refine wpAnyT_takeD (i := 1) (d := some 51) (v := ?_) hO rfl rfl (by kernel_rfl) (fun _ _ _ h => h) (Or.inl ⟨by rfl, ?_⟩) (by exact hHeld) ?_
          rotate_left
          · intro w' hSw
            obtain ⟨_, z1, z2, z3, z4⟩ := hSw
            go_simp
            try (with_reducible rfl)
          try simp only [Act.put, List.setIfInBounds_toArray, List.set_cons_zero, List.set_cons_succ]
          refine wpAnyT_takeD (i := 2) (d := some 52) (v := ?_) hO rfl rfl (by kernel_rfl) (fun _ _ _ h => h) (Or.inl ⟨by rfl, ?_⟩) (by exact hHeld) ?_
          rotate_left
          · intro w' hSw
            obtain ⟨_, z1, z2, z3, z4⟩ := hSw
            go_simp
            try (with_reducible rfl)
          try simp only [Act.put, List.setIfInBounds_toArray, List.set_cons_zero, List.set_cons_succ]
          refine wpAnyT_takeD (i := 3) (d := some 53) (v := ?_) hO rfl rfl (by kernel_rfl) (fun _ _ _ h => h) (Or.inl ⟨by rfl, ?_⟩) (by exact hHeld) ?_
          rotate_left
          · intro w' hSw
            obtain ⟨_, z1, z2, z3, z4⟩ := hSw
            go_simp
            try (with_reducible rfl)
          try simp only [Act.put, List.setIfInBounds_toArray, List.set_cons_zero, List.set_cons_succ]
          refine wpAnyT_takeD (i := 4) (d := some 54) (v := ?_) hO rfl rfl (by kernel_rfl) (fun _ _ _ h => h) (Or.inl ⟨by rfl, ?_⟩) (by exact hHeld) ?_
          rotate_left
          · intro w' hSw
            obtain ⟨_, z1, z2, z3, z4⟩ := hSw
            go_simp
            try (with_reducible rfl)
          try simp only [Act.put, List.setIfInBounds_toArray, List.set_cons_zero, List.set_cons_succ]
          clear hHeld hn
          refine wpAnyT_one (i := 5) rfl (by kernel_rfl) (by rfl) (fun K hK => ?_)
          have hmk := HMK.out
          go_simp
          have y5 : Ext (· = w1.heap.size) w4 (w4.alloc (.cells (madeCells #[.int .u64 0] n) 63)).drew := ((Ext.refl _ _).alloc _).drew
          refine hK.out _ _ ⟨y5, SK.out _ y5⟩ (fun hHeld => ?_)
          clear hK K hmk hHeld SK
          have H5 := toHid (show _ ∧ _ ∧ _ from ⟨own_ext (HMR.out w4) (Ext.refl Nope _).drew (fun _ _ z => z), ((Ext.refl Nope w4).alloc (.cells (madeCells #[.int .u64 0] n) 63)).drew, y5⟩)
          clear y5
          generalize (w4.alloc (.cells (madeCells #[.int .u64 0] n) 63)).drew = w5 at *
          try simp only [Act.put, List.setIfInBounds_toArray, List.set_cons_zero, List.set_cons_succ]
          refine wpAnyT_done (by kernel_rfl) ⟨by kernel_rfl, ?_⟩
          simp only [List.drop_succ_cons, List.drop_zero]
          go_wp2_with fail
          refine (write_calls (c := c) (HQ.out.1.ext H5.out.2.1 (fun _ _ z => z)) zero_ok (RowsAt.reads H5.out.1) (fun g hg z => by have h1 : w4.heap.size ≤ g := (World.ownsRow.lt H5.out.1 g hg).1; have h2 := (HQ.out.1.foot g z).2; omega) (fun x hx => by have := List.eq_of_mem_replicate hx; omega) HT.out.2 (by rw [List.length_replicate]; omega)).mono ?_
          rw [zero_write]
          rintro e w6 ⟨rfl, p6, x6⟩
          have H6 := toHid (show _ ∧ _ from ⟨p6, (HQ.out.2.trans H5.out.2.2 (fun _ _ z => z)).trans x6 (fun i _ z => by rcases z with z | z; exact z; simp [Value.ownBlock] at z)⟩)
          clear x6 p6
          go_wp2_with fail
          refine (pixels_calls H6.out.1 (by simp)).mono ?_
          rintro e w7 ⟨u7, rfl, r7, x7⟩
          have H7 := toHid (show _ ∧ _ from ⟨H6.out.1.ext x7 (fun _ _ z => z), H6.out.2.trans x7 (fun _ _ z => False.elim z)⟩)
          obtain ⟨pa7, pc7, hpv7, _⟩ := own_gen r7
          simp only [List.length_nil] at hpv7
          subst hpv7
          clear r7 x7
          go_wp2_with fail
          refine (updates_calls H7.out.1).mono ?_
          rintro e w8 ⟨rfl, rfl⟩
          try simp only [Nat.cast_zero, Int.natCast_zero]
          go_wp2
          go_roundw
          case rel => exact ⟨2, by go_num, by omega, H7.out.1, H7.out.2⟩
          case measure => simp [intOf]
        · have HX : Hid (Ext Nope w wo) := (ext0 HE1.out.1 HL.out.2.2.2).trans HQ.out.2 (fun i hi z => absurd (show i = w1.heap.size from z) (by omega))
          go_wp2
          go_ret
          exact ⟨rfl, HX.out⟩
    · have g2 : decide ((1 : Int) ≤ n0) = true := by simp; omega
      have g3 : decide (n0 ≤ (64 : Int)) = false := by simp; omega
      go_wp2_with fail
      clear g1 g2 g3
      have kz := (heap_alloc_old (w1.alloc (.cells #[.int .i64 0, .slice none 0 0, .bool false, .int .i64 0, .int .i64 0] 70)) (.cells #[.pointer none, .pointer (some ⟨w1.heap.size, 0, none⟩)] 25) w1.heap.size (by simp)).trans (heap_alloc_new w1 (.cells #[.int .i64 0, .slice none 0 0, .bool false, .int .i64 0, .int .i64 0] 70))
      have kb := heap_alloc_at (w1.alloc (.cells #[.int .i64 0, .slice none 0 0, .bool false, .int .i64 0, .int .i64 0] 70)) (.cells #[.pointer none, .pointer (some ⟨w1.heap.size, 0, none⟩)] 25) (w1.heap.size + 1) (by simp)
      have x3 : Ext Nope w1 ((w1.alloc (.cells #[.int .i64 0, .slice none 0 0, .bool false, .int .i64 0, .int .i64 0] 70)).alloc (.cells #[.pointer none, .pointer (some ⟨w1.heap.size, 0, none⟩)] 25)) := ((Ext.refl _ _).alloc _).alloc _
      generalize (w1.alloc (.cells #[.int .i64 0, .slice none 0 0, .bool false, .int .i64 0, .int .i64 0] 70)).alloc (.cells #[.pointer none, .pointer (some ⟨w1.heap.size, 0, none⟩)] 25) = w3 at *
      have pz : PanAt w3 w.heap.size w1.heap.size (.slice none 0 0) ⟨0, [], false, 0, 0⟩ := ⟨kz, World.ownsRow_nil _ _ _ _, HE1.out.1.size, by simp [Value.ownBlock]⟩
      have kb4 := (x3.block _ (lt_of_heap HE1.out.2.2) (fun z => z)).trans HE1.out.2.2
      have hlt : w.heap.size + 1 < w1.heap.size := lt_of_heap HE1.out.2.2
      have HL := toHid (show _ ∧ _ ∧ _ ∧ _ from ⟨pz, kb, kb4, x3⟩)
      clear kz kb x3 pz kb4 c0 c1
      go_loopw [43] (fun i wr => ∃ k : Nat, i = .int .i64 k ∧ k ≤ 2 ∧ PanAt wr w.heap.size w1.heap.size (.slice none 0 0) ⟨0, [], false, 0, 0⟩ ∧ Ext (· = w1.heap.size) w3 wr) (fun i _ => 2 - (intOf i).toNat)
      case atStart => exact ⟨0, rfl, by omega, HL.out.1, Ext.refl _ _⟩
      case round =>
        obtain ⟨k, rfl, hk, hz, hE⟩ := hrel
        rename World => wo
        have kb := (hE.block _ (lt_of_heap HL.out.2.1) (fun z => by have z : w1.heap.size + 1 = w1.heap.size := z; omega)).trans HL.out.2.1
        have HQ := toHid (show _ ∧ _ from ⟨hz, hE⟩)
        clear hz hE
        rcases (show k = 0 ∨ k = 1 ∨ k = 2 by omega) with rfl | rfl | rfl
        · have c0 := cell_of_blk kb 0
          clear kb
          go_wp2_with fail
          refine (fail_nil _ i2).mono ?_
          rintro e w4 ⟨rfl, rfl⟩
          clear c0
          go_upto_region 9 with fail
          have k4q := (HQ.out.2.block (w.heap.size + 1) (by have := lt_of_heap HL.out.2.2.1; exact this) (fun z => by have z : w.heap.size + 1 = w1.heap.size := z; omega)).trans HL.out.2.2.1
          have SK : Hid (∀ w', Ext (· = w1.heap.size) wo w' → w'.cell? ⟨w.heap.size + 1, 0, none⟩ = some (.int .i64 c.x) ∧ w'.cell? ⟨w.heap.size + 1, 1, none⟩ = some (.int .i64 c.y) ∧ w'.cell? ⟨w.heap.size + 1, 2, none⟩ = some (.int .i64 c.w) ∧ w'.cell? ⟨w.heap.size + 1, 3, none⟩ = some (.int .i64 c.h)) := fun w' e => by
            have kk := (e.block _ (lt_of_heap k4q) (fun z => by have z : w.heap.size + 1 = w1.heap.size := z; omega)).trans k4q
            exact ⟨cell_of_blk kk 0, cell_of_blk kk 1, cell_of_blk kk 2, cell_of_blk kk 3⟩
          clear k4q
          refine wp_region_head 6 (fun w' => Ext (· = w1.heap.size) wo w' ∧ w'.cell? ⟨w.heap.size + 1, 0, none⟩ = some (.int .i64 c.x) ∧ w'.cell? ⟨w.heap.size + 1, 1, none⟩ = some (.int .i64 c.y) ∧ w'.cell? ⟨w.heap.size + 1, 2, none⟩ = some (.int .i64 c.w) ∧ w'.cell? ⟨w.heap.size + 1, 3, none⟩ = some (.int .i64 c.h)) (by kernel_rfl) (by kernel_rfl) ⟨(Ext.refl _ _).drew, SK.out _ (Ext.refl _ _).drew⟩ (fun hO hHeld => ?_)
          have hn := HN.out
          refine wpAnyT_takeD (i := 0) (d := some 50) (v := ?_) hO rfl rfl (by kernel_rfl) (fun _ _ _ h => h) (Or.inl ⟨by rfl, ?_⟩) (by exact hHeld) ?_
          rotate_left
          · intro w' hSw
            obtain ⟨_, z1, z2, z3, z4⟩ := hSw
            go_simp
            try (with_reducible rfl)
          try simp only [Act.put, List.setIfInBounds_toArray, List.set_cons_zero, List.set_cons_succ]
          refine wpAnyT_takeD (i := 1) (d := some 51) (v := ?_) hO rfl rfl (by kernel_rfl) (fun _ _ _ h => h) (Or.inl ⟨by rfl, ?_⟩) (by exact hHeld) ?_
          rotate_left
          · intro w' hSw
            obtain ⟨_, z1, z2, z3, z4⟩ := hSw
            go_simp
            try (with_reducible rfl)
          try simp only [Act.put, List.setIfInBounds_toArray, List.set_cons_zero, List.set_cons_succ]
          refine wpAnyT_takeD (i := 2) (d := some 52) (v := ?_) hO rfl rfl (by kernel_rfl) (fun _ _ _ h => h) (Or.inl ⟨by rfl, ?_⟩) (by exact hHeld) ?_
          rotate_left
          · intro w' hSw
            obtain ⟨_, z1, z2, z3, z4⟩ := hSw
            go_simp
            try (with_reducible rfl)
          try simp only [Act.put, List.setIfInBounds_toArray, List.set_cons_zero, List.set_cons_succ]
          refine wpAnyT_takeD (i := 3) (d := some 53) (v := ?_) hO rfl rfl (by kernel_rfl) (fun _ _ _ h => h) (Or.inl ⟨by rfl, ?_⟩) (by exact hHeld) ?_
          rotate_left
          · intro w' hSw
            obtain ⟨_, z1, z2, z3, z4⟩ := hSw
            go_simp
            try (with_reducible rfl)
          try simp only [Act.put, List.setIfInBounds_toArray, List.set_cons_zero, List.set_cons_succ]
          refine wpAnyT_takeD (i := 4) (d := some 54) (v := ?_) hO rfl rfl (by kernel_rfl) (fun _ _ _ h => h) (Or.inl ⟨by rfl, ?_⟩) (by exact hHeld) ?_
          rotate_left
          · intro w' hSw
            obtain ⟨_, z1, z2, z3, z4⟩ := hSw
            go_simp
            try (with_reducible rfl)
          try simp only [Act.put, List.setIfInBounds_toArray, List.set_cons_zero, List.set_cons_succ]
          clear hHeld hn
          refine wpAnyT_one (i := 5) rfl (by kernel_rfl) (by rfl) (fun K hK => ?_)
          have hmk := HMK.out
          go_simp
          have y5 : Ext (· = w1.heap.size) wo (wo.alloc (.cells (madeCells #[.int .u64 0] n) 63)).drew := ((Ext.refl _ _).alloc _).drew
          refine hK.out _ _ ⟨y5, SK.out _ y5⟩ (fun hHeld => ?_)
          clear hK K hmk hHeld SK
          have H5 := toHid (show _ ∧ _ ∧ _ from ⟨own_ext (HMR.out wo) (Ext.refl Nope _).drew (fun _ _ z => z), ((Ext.refl Nope wo).alloc (.cells (madeCells #[.int .u64 0] n) 63)).drew, y5⟩)
          clear y5
          generalize (wo.alloc (.cells (madeCells #[.int .u64 0] n) 63)).drew = w5 at *
          try simp only [Act.put, List.setIfInBounds_toArray, List.set_cons_zero, List.set_cons_succ]
          refine wpAnyT_done (by kernel_rfl) ⟨by kernel_rfl, ?_⟩
          simp only [List.drop_succ_cons, List.drop_zero]
          go_wp2_with fail
          refine (write_nil _ c _ n n).mono ?_
          rintro e w6 ⟨rfl, x6⟩
          have H6 := toHid (show _ ∧ _ from ⟨(HQ.out.1.ext H5.out.2.1 (fun _ _ z => z)).ext x6 (fun _ _ z => z), (HQ.out.2.trans H5.out.2.2 (fun _ _ z => z)).trans x6 (fun _ _ z => False.elim z)⟩)
          clear x6
          go_wp2_with fail
          refine (pixels_nil _).mono ?_
          rintro e w7 ⟨u7, rfl, r7, x7⟩
          have H7 := toHid (show _ ∧ _ from ⟨H6.out.1.ext x7 (fun _ _ z => z), H6.out.2.trans x7 (fun _ _ z => False.elim z)⟩)
          obtain ⟨pa7, pc7, hpv7, _⟩ := own_gen r7
          simp only [List.length_nil] at hpv7
          subst hpv7
          clear r7 x7
          go_wp2_with fail
          refine (updates_nil _).mono ?_
          rintro e w8 ⟨rfl, rfl⟩
          try simp only [Nat.cast_zero, Int.natCast_zero]
          go_wp2
          go_roundw
          case rel => exact ⟨1, by go_num, by omega, H7.out.1, H7.out.2⟩
          case measure => simp [intOf]
        · have c1 := cell_of_blk kb 1
          clear kb
          go_wp2_with fail
          refine (fail_calls HQ.out.1 i2).mono ?_
          rw [zero_fail]
          rintro e w4 ⟨rfl, p4, x4⟩
          have HQ := toHid (show _ ∧ _ from ⟨p4, HQ.out.2.trans x4 (fun i _ z => by rcases z with z | z; exact z; simp [Value.ownBlock] at z)⟩)
          clear c1 p4 x4
          go_upto_region 9 with fail
          have k4q := (HQ.out.2.block (w.heap.size + 1) (by have := lt_of_heap HL.out.2.2.1; exact this) (fun z => by have z : w.heap.size + 1 = w1.heap.size := z; omega)).trans HL.out.2.2.1
          have SK : Hid (∀ w', Ext (· = w1.heap.size) w4 w' → w'.cell? ⟨w.heap.size + 1, 0, none⟩ = some (.int .i64 c.x) ∧ w'.cell? ⟨w.heap.size + 1, 1, none⟩ = some (.int .i64 c.y) ∧ w'.cell? ⟨w.heap.size + 1, 2, none⟩ = some (.int .i64 c.w) ∧ w'.cell? ⟨w.heap.size + 1, 3, none⟩ = some (.int .i64 c.h)) := fun w' e => by
            have kk := (e.block _ (lt_of_heap k4q) (fun z => by have z : w.heap.size + 1 = w1.heap.size := z; omega)).trans k4q
            exact ⟨cell_of_blk kk 0, cell_of_blk kk 1, cell_of_blk kk 2, cell_of_blk kk 3⟩
          clear k4q
          refine wp_region_head 6 (fun w' => Ext (· = w1.heap.size) w4 w' ∧ w'.cell? ⟨w.heap.size + 1, 0, none⟩ = some (.int .i64 c.x) ∧ w'.cell? ⟨w.heap.size + 1, 1, none⟩ = some (.int .i64 c.y) ∧ w'.cell? ⟨w.heap.size + 1, 2, none⟩ = some (.int .i64 c.w) ∧ w'.cell? ⟨w.heap.size + 1, 3, none⟩ = some (.int .i64 c.h)) (by kernel_rfl) (by kernel_rfl) ⟨(Ext.refl _ _).drew, SK.out _ (Ext.refl _ _).drew⟩ (fun hO hHeld => ?_)
          have hn := HN.out
          refine wpAnyT_takeD (i := 0) (d := some 50) (v := ?_) hO rfl rfl (by kernel_rfl) (fun _ _ _ h => h) (Or.inl ⟨by rfl, ?_⟩) (by exact hHeld) ?_
          rotate_left
          · intro w' hSw
            obtain ⟨_, z1, z2, z3, z4⟩ := hSw
            go_simp
            try (with_reducible rfl)
          try simp only [Act.put, List.setIfInBounds_toArray, List.set_cons_zero, List.set_cons_succ]
          refine wpAnyT_takeD (i := 1) (d := some 51) (v := ?_) hO rfl rfl (by kernel_rfl) (fun _ _ _ h => h) (Or.inl ⟨by rfl, ?_⟩) (by exact hHeld) ?_
          rotate_left
          · intro w' hSw
            obtain ⟨_, z1, z2, z3, z4⟩ := hSw
            go_simp
            try (with_reducible rfl)
          try simp only [Act.put, List.setIfInBounds_toArray, List.set_cons_zero, List.set_cons_succ]
          refine wpAnyT_takeD (i := 2) (d := some 52) (v := ?_) hO rfl rfl (by kernel_rfl) (fun _ _ _ h => h) (Or.inl ⟨by rfl, ?_⟩) (by exact hHeld) ?_
          rotate_left
          · intro w' hSw
            obtain ⟨_, z1, z2, z3, z4⟩ := hSw
            go_simp
            try (with_reducible rfl)
          try simp only [Act.put, List.setIfInBounds_toArray, List.set_cons_zero, List.set_cons_succ]
          refine wpAnyT_takeD (i := 3) (d := some 53) (v := ?_) hO rfl rfl (by kernel_rfl) (fun _ _ _ h => h) (Or.inl ⟨by rfl, ?_⟩) (by exact hHeld) ?_
          rotate_left
          · intro w' hSw
            obtain ⟨_, z1, z2, z3, z4⟩ := hSw
            go_simp
            try (with_reducible rfl)
          try simp only [Act.put, List.setIfInBounds_toArray, List.set_cons_zero, List.set_cons_succ]
          refine wpAnyT_takeD (i := 4) (d := some 54) (v := ?_) hO rfl rfl (by kernel_rfl) (fun _ _ _ h => h) (Or.inl ⟨by rfl, ?_⟩) (by exact hHeld) ?_
          rotate_left
          · intro w' hSw
            obtain ⟨_, z1, z2, z3, z4⟩ := hSw
            go_simp
            try (with_reducible rfl)
          try simp only [Act.put, List.setIfInBounds_toArray, List.set_cons_zero, List.set_cons_succ]
          clear hHeld hn
          refine wpAnyT_one (i := 5) rfl (by kernel_rfl) (by rfl) (fun K hK => ?_)
          have hmk := HMK.out
          go_simp
          have y5 : Ext (· = w1.heap.size) w4 (w4.alloc (.cells (madeCells #[.int .u64 0] n) 63)).drew := ((Ext.refl _ _).alloc _).drew
          refine hK.out _ _ ⟨y5, SK.out _ y5⟩ (fun hHeld => ?_)
          clear hK K hmk hHeld SK
          have H5 := toHid (show _ ∧ _ ∧ _ from ⟨own_ext (HMR.out w4) (Ext.refl Nope _).drew (fun _ _ z => z), ((Ext.refl Nope w4).alloc (.cells (madeCells #[.int .u64 0] n) 63)).drew, y5⟩)
          clear y5
          generalize (w4.alloc (.cells (madeCells #[.int .u64 0] n) 63)).drew = w5 at *
          try simp only [Act.put, List.setIfInBounds_toArray, List.set_cons_zero, List.set_cons_succ]
          refine wpAnyT_done (by kernel_rfl) ⟨by kernel_rfl, ?_⟩
          simp only [List.drop_succ_cons, List.drop_zero]
          go_wp2_with fail
          refine (write_calls (c := c) (HQ.out.1.ext H5.out.2.1 (fun _ _ z => z)) zero_ok (RowsAt.reads H5.out.1) (fun g hg z => by have h1 : w4.heap.size ≤ g := (World.ownsRow.lt H5.out.1 g hg).1; have h2 := (HQ.out.1.foot g z).2; omega) (fun x hx => by have := List.eq_of_mem_replicate hx; omega) HT.out.2 (by rw [List.length_replicate]; omega)).mono ?_
          rw [zero_write]
          rintro e w6 ⟨rfl, p6, x6⟩
          have H6 := toHid (show _ ∧ _ from ⟨p6, (HQ.out.2.trans H5.out.2.2 (fun _ _ z => z)).trans x6 (fun i _ z => by rcases z with z | z; exact z; simp [Value.ownBlock] at z)⟩)
          clear x6 p6
          go_wp2_with fail
          refine (pixels_calls H6.out.1 (by simp)).mono ?_
          rintro e w7 ⟨u7, rfl, r7, x7⟩
          have H7 := toHid (show _ ∧ _ from ⟨H6.out.1.ext x7 (fun _ _ z => z), H6.out.2.trans x7 (fun _ _ z => False.elim z)⟩)
          obtain ⟨pa7, pc7, hpv7, _⟩ := own_gen r7
          simp only [List.length_nil] at hpv7
          subst hpv7
          clear r7 x7
          go_wp2_with fail
          refine (updates_calls H7.out.1).mono ?_
          rintro e w8 ⟨rfl, rfl⟩
          try simp only [Nat.cast_zero, Int.natCast_zero]
          go_wp2
          go_roundw
          case rel => exact ⟨2, by go_num, by omega, H7.out.1, H7.out.2⟩
          case measure => simp [intOf]
        · have HX : Hid (Ext Nope w wo) := (ext0 HE1.out.1 HL.out.2.2.2).trans HQ.out.2 (fun i hi z => absurd (show i = w1.heap.size from z) (by omega))
          go_wp2
          go_ret
          exact ⟨rfl, HX.out⟩
    · have g2 : decide ((1 : Int) ≤ n0) = true := by simp; omega
      have g3 : decide (n0 ≤ (64 : Int)) = true := by simp; omega
      have g4 : decide ((1 : Int) ≤ n1) = false := by simp; omega
      go_wp2_with fail
      clear g1 g2 g3 g4
      have kz := (heap_alloc_old (w1.alloc (.cells #[.int .i64 0, .slice none 0 0, .bool false, .int .i64 0, .int .i64 0] 70)) (.cells #[.pointer none, .pointer (some ⟨w1.heap.size, 0, none⟩)] 25) w1.heap.size (by simp)).trans (heap_alloc_new w1 (.cells #[.int .i64 0, .slice none 0 0, .bool false, .int .i64 0, .int .i64 0] 70))
      have kb := heap_alloc_at (w1.alloc (.cells #[.int .i64 0, .slice none 0 0, .bool false, .int .i64 0, .int .i64 0] 70)) (.cells #[.pointer none, .pointer (some ⟨w1.heap.size, 0, none⟩)] 25) (w1.heap.size + 1) (by simp)
      have x3 : Ext Nope w1 ((w1.alloc (.cells #[.int .i64 0, .slice none 0 0, .bool false, .int .i64 0, .int .i64 0] 70)).alloc (.cells #[.pointer none, .pointer (some ⟨w1.heap.size, 0, none⟩)] 25)) := ((Ext.refl _ _).alloc _).alloc _
      generalize (w1.alloc (.cells #[.int .i64 0, .slice none 0 0, .bool false, .int .i64 0, .int .i64 0] 70)).alloc (.cells #[.pointer none, .pointer (some ⟨w1.heap.size, 0, none⟩)] 25) = w3 at *
      have pz : PanAt w3 w.heap.size w1.heap.size (.slice none 0 0) ⟨0, [], false, 0, 0⟩ := ⟨kz, World.ownsRow_nil _ _ _ _, HE1.out.1.size, by simp [Value.ownBlock]⟩
      have kb4 := (x3.block _ (lt_of_heap HE1.out.2.2) (fun z => z)).trans HE1.out.2.2
      have hlt : w.heap.size + 1 < w1.heap.size := lt_of_heap HE1.out.2.2
      have HL := toHid (show _ ∧ _ ∧ _ ∧ _ from ⟨pz, kb, kb4, x3⟩)
      clear kz kb x3 pz kb4 c0 c1
      go_loopw [43] (fun i wr => ∃ k : Nat, i = .int .i64 k ∧ k ≤ 2 ∧ PanAt wr w.heap.size w1.heap.size (.slice none 0 0) ⟨0, [], false, 0, 0⟩ ∧ Ext (· = w1.heap.size) w3 wr) (fun i _ => 2 - (intOf i).toNat)
      case atStart => exact ⟨0, rfl, by omega, HL.out.1, Ext.refl _ _⟩
      case round =>
        obtain ⟨k, rfl, hk, hz, hE⟩ := hrel
        rename World => wo
        have kb := (hE.block _ (lt_of_heap HL.out.2.1) (fun z => by have z : w1.heap.size + 1 = w1.heap.size := z; omega)).trans HL.out.2.1
        have HQ := toHid (show _ ∧ _ from ⟨hz, hE⟩)
        clear hz hE
        rcases (show k = 0 ∨ k = 1 ∨ k = 2 by omega) with rfl | rfl | rfl
        · have c0 := cell_of_blk kb 0
          clear kb
          go_wp2_with fail
          refine (fail_nil _ i2).mono ?_
          rintro e w4 ⟨rfl, rfl⟩
          clear c0
          go_upto_region 9 with fail
          have k4q := (HQ.out.2.block (w.heap.size + 1) (by have := lt_of_heap HL.out.2.2.1; exact this) (fun z => by have z : w.heap.size + 1 = w1.heap.size := z; omega)).trans HL.out.2.2.1
          have SK : Hid (∀ w', Ext (· = w1.heap.size) wo w' → w'.cell? ⟨w.heap.size + 1, 0, none⟩ = some (.int .i64 c.x) ∧ w'.cell? ⟨w.heap.size + 1, 1, none⟩ = some (.int .i64 c.y) ∧ w'.cell? ⟨w.heap.size + 1, 2, none⟩ = some (.int .i64 c.w) ∧ w'.cell? ⟨w.heap.size + 1, 3, none⟩ = some (.int .i64 c.h)) := fun w' e => by
            have kk := (e.block _ (lt_of_heap k4q) (fun z => by have z : w.heap.size + 1 = w1.heap.size := z; omega)).trans k4q
            exact ⟨cell_of_blk kk 0, cell_of_blk kk 1, cell_of_blk kk 2, cell_of_blk kk 3⟩
          clear k4q
          refine wp_region_head 6 (fun w' => Ext (· = w1.heap.size) wo w' ∧ w'.cell? ⟨w.heap.size + 1, 0, none⟩ = some (.int .i64 c.x) ∧ w'.cell? ⟨w.heap.size + 1, 1, none⟩ = some (.int .i64 c.y) ∧ w'.cell? ⟨w.heap.size + 1, 2, none⟩ = some (.int .i64 c.w) ∧ w'.cell? ⟨w.heap.size + 1, 3, none⟩ = some (.int .i64 c.h)) (by kernel_rfl) (by kernel_rfl) ⟨(Ext.refl _ _).drew, SK.out _ (Ext.refl _ _).drew⟩ (fun hO hHeld => ?_)
          have hn := HN.out
          refine wpAnyT_takeD (i := 0) (d := some 50) (v := ?_) hO rfl rfl (by kernel_rfl) (fun _ _ _ h => h) (Or.inl ⟨by rfl, ?_⟩) (by exact hHeld) ?_
          rotate_left
          · intro w' hSw
            obtain ⟨_, z1, z2, z3, z4⟩ := hSw
            go_simp
            try (with_reducible rfl)
          try simp only [Act.put, List.setIfInBounds_toArray, List.set_cons_zero, List.set_cons_succ]
          refine wpAnyT_takeD (i := 1) (d := some 51) (v := ?_) hO rfl rfl (by kernel_rfl) (fun _ _ _ h => h) (Or.inl ⟨by rfl, ?_⟩) (by exact hHeld) ?_
          rotate_left
          · intro w' hSw
            obtain ⟨_, z1, z2, z3, z4⟩ := hSw
            go_simp
            try (with_reducible rfl)
          try simp only [Act.put, List.setIfInBounds_toArray, List.set_cons_zero, List.set_cons_succ]
          refine wpAnyT_takeD (i := 2) (d := some 52) (v := ?_) hO rfl rfl (by kernel_rfl) (fun _ _ _ h => h) (Or.inl ⟨by rfl, ?_⟩) (by exact hHeld) ?_
          rotate_left
          · intro w' hSw
            obtain ⟨_, z1, z2, z3, z4⟩ := hSw
            go_simp
            try (with_reducible rfl)
          try simp only [Act.put, List.setIfInBounds_toArray, List.set_cons_zero, List.set_cons_succ]
          refine wpAnyT_takeD (i := 3) (d := some 53) (v := ?_) hO rfl rfl (by kernel_rfl) (fun _ _ _ h => h) (Or.inl ⟨by rfl, ?_⟩) (by exact hHeld) ?_
          rotate_left
          · intro w' hSw
            obtain ⟨_, z1, z2, z3, z4⟩ := hSw
            go_simp
            try (with_reducible rfl)
          try simp only [Act.put, List.setIfInBounds_toArray, List.set_cons_zero, List.set_cons_succ]
          refine wpAnyT_takeD (i := 4) (d := some 54) (v := ?_) hO rfl rfl (by kernel_rfl) (fun _ _ _ h => h) (Or.inl ⟨by rfl, ?_⟩) (by exact hHeld) ?_
          rotate_left
          · intro w' hSw
            obtain ⟨_, z1, z2, z3, z4⟩ := hSw
            go_simp
            try (with_reducible rfl)
          try simp only [Act.put, List.setIfInBounds_toArray, List.set_cons_zero, List.set_cons_succ]
          clear hHeld hn
          refine wpAnyT_one (i := 5) rfl (by kernel_rfl) (by rfl) (fun K hK => ?_)
          have hmk := HMK.out
          go_simp
          have y5 : Ext (· = w1.heap.size) wo (wo.alloc (.cells (madeCells #[.int .u64 0] n) 63)).drew := ((Ext.refl _ _).alloc _).drew
          refine hK.out _ _ ⟨y5, SK.out _ y5⟩ (fun hHeld => ?_)
          clear hK K hmk hHeld SK
          have H5 := toHid (show _ ∧ _ ∧ _ from ⟨own_ext (HMR.out wo) (Ext.refl Nope _).drew (fun _ _ z => z), ((Ext.refl Nope wo).alloc (.cells (madeCells #[.int .u64 0] n) 63)).drew, y5⟩)
          clear y5
          generalize (wo.alloc (.cells (madeCells #[.int .u64 0] n) 63)).drew = w5 at *
          try simp only [Act.put, List.setIfInBounds_toArray, List.set_cons_zero, List.set_cons_succ]
          refine wpAnyT_done (by kernel_rfl) ⟨by kernel_rfl, ?_⟩
          simp only [List.drop_succ_cons, List.drop_zero]
          go_wp2_with fail
          refine (write_nil _ c _ n n).mono ?_
          rintro e w6 ⟨rfl, x6⟩
          have H6 := toHid (show _ ∧ _ from ⟨(HQ.out.1.ext H5.out.2.1 (fun _ _ z => z)).ext x6 (fun _ _ z => z), (HQ.out.2.trans H5.out.2.2 (fun _ _ z => z)).trans x6 (fun _ _ z => False.elim z)⟩)
          clear x6
          go_wp2_with fail
          refine (pixels_nil _).mono ?_
          rintro e w7 ⟨u7, rfl, r7, x7⟩
          have H7 := toHid (show _ ∧ _ from ⟨H6.out.1.ext x7 (fun _ _ z => z), H6.out.2.trans x7 (fun _ _ z => False.elim z)⟩)
          obtain ⟨pa7, pc7, hpv7, _⟩ := own_gen r7
          simp only [List.length_nil] at hpv7
          subst hpv7
          clear r7 x7
          go_wp2_with fail
          refine (updates_nil _).mono ?_
          rintro e w8 ⟨rfl, rfl⟩
          try simp only [Nat.cast_zero, Int.natCast_zero]
          go_wp2
          go_roundw
          case rel => exact ⟨1, by go_num, by omega, H7.out.1, H7.out.2⟩
          case measure => simp [intOf]
        · have c1 := cell_of_blk kb 1
          clear kb
          go_wp2_with fail
          refine (fail_calls HQ.out.1 i2).mono ?_
          rw [zero_fail]
          rintro e w4 ⟨rfl, p4, x4⟩
          have HQ := toHid (show _ ∧ _ from ⟨p4, HQ.out.2.trans x4 (fun i _ z => by rcases z with z | z; exact z; simp [Value.ownBlock] at z)⟩)
          clear c1 p4 x4
          go_upto_region 9 with fail
          have k4q := (HQ.out.2.block (w.heap.size + 1) (by have := lt_of_heap HL.out.2.2.1; exact this) (fun z => by have z : w.heap.size + 1 = w1.heap.size := z; omega)).trans HL.out.2.2.1
          have SK : Hid (∀ w', Ext (· = w1.heap.size) w4 w' → w'.cell? ⟨w.heap.size + 1, 0, none⟩ = some (.int .i64 c.x) ∧ w'.cell? ⟨w.heap.size + 1, 1, none⟩ = some (.int .i64 c.y) ∧ w'.cell? ⟨w.heap.size + 1, 2, none⟩ = some (.int .i64 c.w) ∧ w'.cell? ⟨w.heap.size + 1, 3, none⟩ = some (.int .i64 c.h)) := fun w' e => by
            have kk := (e.block _ (lt_of_heap k4q) (fun z => by have z : w.heap.size + 1 = w1.heap.size := z; omega)).trans k4q
            exact ⟨cell_of_blk kk 0, cell_of_blk kk 1, cell_of_blk kk 2, cell_of_blk kk 3⟩
          clear k4q
          refine wp_region_head 6 (fun w' => Ext (· = w1.heap.size) w4 w' ∧ w'.cell? ⟨w.heap.size + 1, 0, none⟩ = some (.int .i64 c.x) ∧ w'.cell? ⟨w.heap.size + 1, 1, none⟩ = some (.int .i64 c.y) ∧ w'.cell? ⟨w.heap.size + 1, 2, none⟩ = some (.int .i64 c.w) ∧ w'.cell? ⟨w.heap.size + 1, 3, none⟩ = some (.int .i64 c.h)) (by kernel_rfl) (by kernel_rfl) ⟨(Ext.refl _ _).drew, SK.out _ (Ext.refl _ _).drew⟩ (fun hO hHeld => ?_)
          have hn := HN.out
          refine wpAnyT_takeD (i := 0) (d := some 50) (v := ?_) hO rfl rfl (by kernel_rfl) (fun _ _ _ h => h) (Or.inl ⟨by rfl, ?_⟩) (by exact hHeld) ?_
          rotate_left
          · intro w' hSw
            obtain ⟨_, z1, z2, z3, z4⟩ := hSw
            go_simp
            try (with_reducible rfl)
          try simp only [Act.put, List.setIfInBounds_toArray, List.set_cons_zero, List.set_cons_succ]
          refine wpAnyT_takeD (i := 1) (d := some 51) (v := ?_) hO rfl rfl (by kernel_rfl) (fun _ _ _ h => h) (Or.inl ⟨by rfl, ?_⟩) (by exact hHeld) ?_
          rotate_left
          · intro w' hSw
            obtain ⟨_, z1, z2, z3, z4⟩ := hSw
            go_simp
            try (with_reducible rfl)
          try simp only [Act.put, List.setIfInBounds_toArray, List.set_cons_zero, List.set_cons_succ]
          refine wpAnyT_takeD (i := 2) (d := some 52) (v := ?_) hO rfl rfl (by kernel_rfl) (fun _ _ _ h => h) (Or.inl ⟨by rfl, ?_⟩) (by exact hHeld) ?_
          rotate_left
          · intro w' hSw
            obtain ⟨_, z1, z2, z3, z4⟩ := hSw
            go_simp
            try (with_reducible rfl)
          try simp only [Act.put, List.setIfInBounds_toArray, List.set_cons_zero, List.set_cons_succ]
          refine wpAnyT_takeD (i := 3) (d := some 53) (v := ?_) hO rfl rfl (by kernel_rfl) (fun _ _ _ h => h) (Or.inl ⟨by rfl, ?_⟩) (by exact hHeld) ?_
          rotate_left
          · intro w' hSw
            obtain ⟨_, z1, z2, z3, z4⟩ := hSw
            go_simp
            try (with_reducible rfl)
          try simp only [Act.put, List.setIfInBounds_toArray, List.set_cons_zero, List.set_cons_succ]
          refine wpAnyT_takeD (i := 4) (d := some 54) (v := ?_) hO rfl rfl (by kernel_rfl) (fun _ _ _ h => h) (Or.inl ⟨by rfl, ?_⟩) (by exact hHeld) ?_
          rotate_left
          · intro w' hSw
            obtain ⟨_, z1, z2, z3, z4⟩ := hSw
            go_simp
            try (with_reducible rfl)
          try simp only [Act.put, List.setIfInBounds_toArray, List.set_cons_zero, List.set_cons_succ]
          clear hHeld hn
          refine wpAnyT_one (i := 5) rfl (by kernel_rfl) (by rfl) (fun K hK => ?_)
          have hmk := HMK.out
          go_simp
          have y5 : Ext (· = w1.heap.size) w4 (w4.alloc (.cells (madeCells #[.int .u64 0] n) 63)).drew := ((Ext.refl _ _).alloc _).drew
          refine hK.out _ _ ⟨y5, SK.out _ y5⟩ (fun hHeld => ?_)
          clear hK K hmk hHeld SK
          have H5 := toHid (show _ ∧ _ ∧ _ from ⟨own_ext (HMR.out w4) (Ext.refl Nope _).drew (fun _ _ z => z), ((Ext.refl Nope w4).alloc (.cells (madeCells #[.int .u64 0] n) 63)).drew, y5⟩)
          clear y5
          generalize (w4.alloc (.cells (madeCells #[.int .u64 0] n) 63)).drew = w5 at *
          try simp only [Act.put, List.setIfInBounds_toArray, List.set_cons_zero, List.set_cons_succ]
          refine wpAnyT_done (by kernel_rfl) ⟨by kernel_rfl, ?_⟩
          simp only [List.drop_succ_cons, List.drop_zero]
          go_wp2_with fail
          refine (write_calls (c := c) (HQ.out.1.ext H5.out.2.1 (fun _ _ z => z)) zero_ok (RowsAt.reads H5.out.1) (fun g hg z => by have h1 : w4.heap.size ≤ g := (World.ownsRow.lt H5.out.1 g hg).1; have h2 := (HQ.out.1.foot g z).2; omega) (fun x hx => by have := List.eq_of_mem_replicate hx; omega) HT.out.2 (by rw [List.length_replicate]; omega)).mono ?_
          rw [zero_write]
          rintro e w6 ⟨rfl, p6, x6⟩
          have H6 := toHid (show _ ∧ _ from ⟨p6, (HQ.out.2.trans H5.out.2.2 (fun _ _ z => z)).trans x6 (fun i _ z => by rcases z with z | z; exact z; simp [Value.ownBlock] at z)⟩)
          clear x6 p6
          go_wp2_with fail
          refine (pixels_calls H6.out.1 (by simp)).mono ?_
          rintro e w7 ⟨u7, rfl, r7, x7⟩
          have H7 := toHid (show _ ∧ _ from ⟨H6.out.1.ext x7 (fun _ _ z => z), H6.out.2.trans x7 (fun _ _ z => False.elim z)⟩)
          obtain ⟨pa7, pc7, hpv7, _⟩ := own_gen r7
          simp only [List.length_nil] at hpv7
          subst hpv7
          clear r7 x7
          go_wp2_with fail
          refine (updates_calls H7.out.1).mono ?_
          rintro e w8 ⟨rfl, rfl⟩
          try simp only [Nat.cast_zero, Int.natCast_zero]
          go_wp2
          go_roundw
          case rel => exact ⟨2, by go_num, by omega, H7.out.1, H7.out.2⟩
          case measure => simp [intOf]
        · have HX : Hid (Ext Nope w wo) := (ext0 HE1.out.1 HL.out.2.2.2).trans HQ.out.2 (fun i hi z => absurd (show i = w1.heap.size from z) (by omega))
          go_wp2
          go_ret
          exact ⟨rfl, HX.out⟩
    · have g2 : decide ((1 : Int) ≤ n0) = true := by simp; omega
      have g3 : decide (n0 ≤ (64 : Int)) = true := by simp; omega
      have g4 : decide ((1 : Int) ≤ n1) = true := by simp; omega
      have g5 : decide (n1 ≤ (64 : Int)) = false := by simp; omega
      go_wp2_with fail
      clear g1 g2 g3 g4 g5
      have kz := (heap_alloc_old (w1.alloc (.cells #[.int .i64 0, .slice none 0 0, .bool false, .int .i64 0, .int .i64 0] 70)) (.cells #[.pointer none, .pointer (some ⟨w1.heap.size, 0, none⟩)] 25) w1.heap.size (by simp)).trans (heap_alloc_new w1 (.cells #[.int .i64 0, .slice none 0 0, .bool false, .int .i64 0, .int .i64 0] 70))
      have kb := heap_alloc_at (w1.alloc (.cells #[.int .i64 0, .slice none 0 0, .bool false, .int .i64 0, .int .i64 0] 70)) (.cells #[.pointer none, .pointer (some ⟨w1.heap.size, 0, none⟩)] 25) (w1.heap.size + 1) (by simp)
      have x3 : Ext Nope w1 ((w1.alloc (.cells #[.int .i64 0, .slice none 0 0, .bool false, .int .i64 0, .int .i64 0] 70)).alloc (.cells #[.pointer none, .pointer (some ⟨w1.heap.size, 0, none⟩)] 25)) := ((Ext.refl _ _).alloc _).alloc _
      generalize (w1.alloc (.cells #[.int .i64 0, .slice none 0 0, .bool false, .int .i64 0, .int .i64 0] 70)).alloc (.cells #[.pointer none, .pointer (some ⟨w1.heap.size, 0, none⟩)] 25) = w3 at *
      have pz : PanAt w3 w.heap.size w1.heap.size (.slice none 0 0) ⟨0, [], false, 0, 0⟩ := ⟨kz, World.ownsRow_nil _ _ _ _, HE1.out.1.size, by simp [Value.ownBlock]⟩
      have kb4 := (x3.block _ (lt_of_heap HE1.out.2.2) (fun z => z)).trans HE1.out.2.2
      have hlt : w.heap.size + 1 < w1.heap.size := lt_of_heap HE1.out.2.2
      have HL := toHid (show _ ∧ _ ∧ _ ∧ _ from ⟨pz, kb, kb4, x3⟩)
      clear kz kb x3 pz kb4 c0 c1
      go_loopw [43] (fun i wr => ∃ k : Nat, i = .int .i64 k ∧ k ≤ 2 ∧ PanAt wr w.heap.size w1.heap.size (.slice none 0 0) ⟨0, [], false, 0, 0⟩ ∧ Ext (· = w1.heap.size) w3 wr) (fun i _ => 2 - (intOf i).toNat)
      case atStart => exact ⟨0, rfl, by omega, HL.out.1, Ext.refl _ _⟩
      case round =>
        obtain ⟨k, rfl, hk, hz, hE⟩ := hrel
        rename World => wo
        have kb := (hE.block _ (lt_of_heap HL.out.2.1) (fun z => by have z : w1.heap.size + 1 = w1.heap.size := z; omega)).trans HL.out.2.1
        have HQ := toHid (show _ ∧ _ from ⟨hz, hE⟩)
        clear hz hE
        rcases (show k = 0 ∨ k = 1 ∨ k = 2 by omega) with rfl | rfl | rfl
        · have c0 := cell_of_blk kb 0
          clear kb
          go_wp2_with fail
          refine (fail_nil _ i2).mono ?_
          rintro e w4 ⟨rfl, rfl⟩
          clear c0
          go_upto_region 9 with fail
          have k4q := (HQ.out.2.block (w.heap.size + 1) (by have := lt_of_heap HL.out.2.2.1; exact this) (fun z => by have z : w.heap.size + 1 = w1.heap.size := z; omega)).trans HL.out.2.2.1
          have SK : Hid (∀ w', Ext (· = w1.heap.size) wo w' → w'.cell? ⟨w.heap.size + 1, 0, none⟩ = some (.int .i64 c.x) ∧ w'.cell? ⟨w.heap.size + 1, 1, none⟩ = some (.int .i64 c.y) ∧ w'.cell? ⟨w.heap.size + 1, 2, none⟩ = some (.int .i64 c.w) ∧ w'.cell? ⟨w.heap.size + 1, 3, none⟩ = some (.int .i64 c.h)) := fun w' e => by
            have kk := (e.block _ (lt_of_heap k4q) (fun z => by have z : w.heap.size + 1 = w1.heap.size := z; omega)).trans k4q
            exact ⟨cell_of_blk kk 0, cell_of_blk kk 1, cell_of_blk kk 2, cell_of_blk kk 3⟩
          clear k4q
          refine wp_region_head 6 (fun w' => Ext (· = w1.heap.size) wo w' ∧ w'.cell? ⟨w.heap.size + 1, 0, none⟩ = some (.int .i64 c.x) ∧ w'.cell? ⟨w.heap.size + 1, 1, none⟩ = some (.int .i64 c.y) ∧ w'.cell? ⟨w.heap.size + 1, 2, none⟩ = some (.int .i64 c.w) ∧ w'.cell? ⟨w.heap.size + 1, 3, none⟩ = some (.int .i64 c.h)) (by kernel_rfl) (by kernel_rfl) ⟨(Ext.refl _ _).drew, SK.out _ (Ext.refl _ _).drew⟩ (fun hO hHeld => ?_)
          have hn := HN.out
          refine wpAnyT_takeD (i := 0) (d := some 50) (v := ?_) hO rfl rfl (by kernel_rfl) (fun _ _ _ h => h) (Or.inl ⟨by rfl, ?_⟩) (by exact hHeld) ?_
          rotate_left
          · intro w' hSw
            obtain ⟨_, z1, z2, z3, z4⟩ := hSw
            go_simp
            try (with_reducible rfl)
          try simp only [Act.put, List.setIfInBounds_toArray, List.set_cons_zero, List.set_cons_succ]
          refine wpAnyT_takeD (i := 1) (d := some 51) (v := ?_) hO rfl rfl (by kernel_rfl) (fun _ _ _ h => h) (Or.inl ⟨by rfl, ?_⟩) (by exact hHeld) ?_
          rotate_left
          · intro w' hSw
            obtain ⟨_, z1, z2, z3, z4⟩ := hSw
            go_simp
            try (with_reducible rfl)
          try simp only [Act.put, List.setIfInBounds_toArray, List.set_cons_zero, List.set_cons_succ]
          refine wpAnyT_takeD (i := 2) (d := some 52) (v := ?_) hO rfl rfl (by kernel_rfl) (fun _ _ _ h => h) (Or.inl ⟨by rfl, ?_⟩) (by exact hHeld) ?_
          rotate_left
          · intro w' hSw
            obtain ⟨_, z1, z2, z3, z4⟩ := hSw
            go_simp
            try (with_reducible rfl)
          try simp only [Act.put, List.setIfInBounds_toArray, List.set_cons_zero, List.set_cons_succ]
          refine wpAnyT_takeD (i := 3) (d := some 53) (v := ?_) hO rfl rfl (by kernel_rfl) (fun _ _ _ h => h) (Or.inl ⟨by rfl, ?_⟩) (by exact hHeld) ?_
          rotate_left
          · intro w' hSw
            obtain ⟨_, z1, z2, z3, z4⟩ := hSw
            go_simp
            try (with_reducible rfl)
          try simp only [Act.put, List.setIfInBounds_toArray, List.set_cons_zero, List.set_cons_succ]
          refine wpAnyT_takeD (i := 4) (d := some 54) (v := ?_) hO rfl rfl (by kernel_rfl) (fun _ _ _ h => h) (Or.inl ⟨by rfl, ?_⟩) (by exact hHeld) ?_
          rotate_left
          · intro w' hSw
            obtain ⟨_, z1, z2, z3, z4⟩ := hSw
            go_simp
            try (with_reducible rfl)
          try simp only [Act.put, List.setIfInBounds_toArray, List.set_cons_zero, List.set_cons_succ]
          clear hHeld hn
          refine wpAnyT_one (i := 5) rfl (by kernel_rfl) (by rfl) (fun K hK => ?_)
          have hmk := HMK.out
          go_simp
          have y5 : Ext (· = w1.heap.size) wo (wo.alloc (.cells (madeCells #[.int .u64 0] n) 63)).drew := ((Ext.refl _ _).alloc _).drew
          refine hK.out _ _ ⟨y5, SK.out _ y5⟩ (fun hHeld => ?_)
          clear hK K hmk hHeld SK
          have H5 := toHid (show _ ∧ _ ∧ _ from ⟨own_ext (HMR.out wo) (Ext.refl Nope _).drew (fun _ _ z => z), ((Ext.refl Nope wo).alloc (.cells (madeCells #[.int .u64 0] n) 63)).drew, y5⟩)
          clear y5
          generalize (wo.alloc (.cells (madeCells #[.int .u64 0] n) 63)).drew = w5 at *
          try simp only [Act.put, List.setIfInBounds_toArray, List.set_cons_zero, List.set_cons_succ]
          refine wpAnyT_done (by kernel_rfl) ⟨by kernel_rfl, ?_⟩
          simp only [List.drop_succ_cons, List.drop_zero]
          go_wp2_with fail
          refine (write_nil _ c _ n n).mono ?_
          rintro e w6 ⟨rfl, x6⟩
          have H6 := toHid (show _ ∧ _ from ⟨(HQ.out.1.ext H5.out.2.1 (fun _ _ z => z)).ext x6 (fun _ _ z => z), (HQ.out.2.trans H5.out.2.2 (fun _ _ z => z)).trans x6 (fun _ _ z => False.elim z)⟩)
          clear x6
          go_wp2_with fail
          refine (pixels_nil _).mono ?_
          rintro e w7 ⟨u7, rfl, r7, x7⟩
          have H7 := toHid (show _ ∧ _ from ⟨H6.out.1.ext x7 (fun _ _ z => z), H6.out.2.trans x7 (fun _ _ z => False.elim z)⟩)
          obtain ⟨pa7, pc7, hpv7, _⟩ := own_gen r7
          simp only [List.length_nil] at hpv7
          subst hpv7
          clear r7 x7
          go_wp2_with fail
          refine (updates_nil _).mono ?_
          rintro e w8 ⟨rfl, rfl⟩
          try simp only [Nat.cast_zero, Int.natCast_zero]
          go_wp2
          go_roundw
          case rel => exact ⟨1, by go_num, by omega, H7.out.1, H7.out.2⟩
          case measure => simp [intOf]
        · have c1 := cell_of_blk kb 1
          clear kb
          go_wp2_with fail
          refine (fail_calls HQ.out.1 i2).mono ?_
          rw [zero_fail]
          rintro e w4 ⟨rfl, p4, x4⟩
          have HQ := toHid (show _ ∧ _ from ⟨p4, HQ.out.2.trans x4 (fun i _ z => by rcases z with z | z; exact z; simp [Value.ownBlock] at z)⟩)
          clear c1 p4 x4
          go_upto_region 9 with fail
          have k4q := (HQ.out.2.block (w.heap.size + 1) (by have := lt_of_heap HL.out.2.2.1; exact this) (fun z => by have z : w.heap.size + 1 = w1.heap.size := z; omega)).trans HL.out.2.2.1
          have SK : Hid (∀ w', Ext (· = w1.heap.size) w4 w' → w'.cell? ⟨w.heap.size + 1, 0, none⟩ = some (.int .i64 c.x) ∧ w'.cell? ⟨w.heap.size + 1, 1, none⟩ = some (.int .i64 c.y) ∧ w'.cell? ⟨w.heap.size + 1, 2, none⟩ = some (.int .i64 c.w) ∧ w'.cell? ⟨w.heap.size + 1, 3, none⟩ = some (.int .i64 c.h)) := fun w' e => by
            have kk := (e.block _ (lt_of_heap k4q) (fun z => by have z : w.heap.size + 1 = w1.heap.size := z; omega)).trans k4q
            exact ⟨cell_of_blk kk 0, cell_of_blk kk 1, cell_of_blk kk 2, cell_of_blk kk 3⟩
          clear k4q
          refine wp_region_head 6 (fun w' => Ext (· = w1.heap.size) w4 w' ∧ w'.cell? ⟨w.heap.size + 1, 0, none⟩ = some (.int .i64 c.x) ∧ w'.cell? ⟨w.heap.size + 1, 1, none⟩ = some (.int .i64 c.y) ∧ w'.cell? ⟨w.heap.size + 1, 2, none⟩ = some (.int .i64 c.w) ∧ w'.cell? ⟨w.heap.size + 1, 3, none⟩ = some (.int .i64 c.h)) (by kernel_rfl) (by kernel_rfl) ⟨(Ext.refl _ _).drew, SK.out _ (Ext.refl _ _).drew⟩ (fun hO hHeld => ?_)
          have hn := HN.out
          refine wpAnyT_takeD (i := 0) (d := some 50) (v := ?_) hO rfl rfl (by kernel_rfl) (fun _ _ _ h => h) (Or.inl ⟨by rfl, ?_⟩) (by exact hHeld) ?_
          rotate_left
          · intro w' hSw
            obtain ⟨_, z1, z2, z3, z4⟩ := hSw
            go_simp
            try (with_reducible rfl)
          try simp only [Act.put, List.setIfInBounds_toArray, List.set_cons_zero, List.set_cons_succ]
          refine wpAnyT_takeD (i := 1) (d := some 51) (v := ?_) hO rfl rfl (by kernel_rfl) (fun _ _ _ h => h) (Or.inl ⟨by rfl, ?_⟩) (by exact hHeld) ?_
          rotate_left
          · intro w' hSw
            obtain ⟨_, z1, z2, z3, z4⟩ := hSw
            go_simp
            try (with_reducible rfl)
          try simp only [Act.put, List.setIfInBounds_toArray, List.set_cons_zero, List.set_cons_succ]
          refine wpAnyT_takeD (i := 2) (d := some 52) (v := ?_) hO rfl rfl (by kernel_rfl) (fun _ _ _ h => h) (Or.inl ⟨by rfl, ?_⟩) (by exact hHeld) ?_
          rotate_left
          · intro w' hSw
            obtain ⟨_, z1, z2, z3, z4⟩ := hSw
            go_simp
            try (with_reducible rfl)
          try simp only [Act.put, List.setIfInBounds_toArray, List.set_cons_zero, List.set_cons_succ]
          refine wpAnyT_takeD (i := 3) (d := some 53) (v := ?_) hO rfl rfl (by kernel_rfl) (fun _ _ _ h => h) (Or.inl ⟨by rfl, ?_⟩) (by exact hHeld) ?_
          rotate_left
          · intro w' hSw
            obtain ⟨_, z1, z2, z3, z4⟩ := hSw
            go_simp
            try (with_reducible rfl)
          try simp only [Act.put, List.setIfInBounds_toArray, List.set_cons_zero, List.set_cons_succ]
          refine wpAnyT_takeD (i := 4) (d := some 54) (v := ?_) hO rfl rfl (by kernel_rfl) (fun _ _ _ h => h) (Or.inl ⟨by rfl, ?_⟩) (by exact hHeld) ?_
          rotate_left
          · intro w' hSw
            obtain ⟨_, z1, z2, z3, z4⟩ := hSw
            go_simp
            try (with_reducible rfl)
          try simp only [Act.put, List.setIfInBounds_toArray, List.set_cons_zero, List.set_cons_succ]
          clear hHeld hn
          refine wpAnyT_one (i := 5) rfl (by kernel_rfl) (by rfl) (fun K hK => ?_)
          have hmk := HMK.out
          go_simp
          have y5 : Ext (· = w1.heap.size) w4 (w4.alloc (.cells (madeCells #[.int .u64 0] n) 63)).drew := ((Ext.refl _ _).alloc _).drew
          refine hK.out _ _ ⟨y5, SK.out _ y5⟩ (fun hHeld => ?_)
          clear hK K hmk hHeld SK
          have H5 := toHid (show _ ∧ _ ∧ _ from ⟨own_ext (HMR.out w4) (Ext.refl Nope _).drew (fun _ _ z => z), ((Ext.refl Nope w4).alloc (.cells (madeCells #[.int .u64 0] n) 63)).drew, y5⟩)
          clear y5
          generalize (w4.alloc (.cells (madeCells #[.int .u64 0] n) 63)).drew = w5 at *
          try simp only [Act.put, List.setIfInBounds_toArray, List.set_cons_zero, List.set_cons_succ]
          refine wpAnyT_done (by kernel_rfl) ⟨by kernel_rfl, ?_⟩
          simp only [List.drop_succ_cons, List.drop_zero]
          go_wp2_with fail
          refine (write_calls (c := c) (HQ.out.1.ext H5.out.2.1 (fun _ _ z => z)) zero_ok (RowsAt.reads H5.out.1) (fun g hg z => by have h1 : w4.heap.size ≤ g := (World.ownsRow.lt H5.out.1 g hg).1; have h2 := (HQ.out.1.foot g z).2; omega) (fun x hx => by have := List.eq_of_mem_replicate hx; omega) HT.out.2 (by rw [List.length_replicate]; omega)).mono ?_
          rw [zero_write]
          rintro e w6 ⟨rfl, p6, x6⟩
          have H6 := toHid (show _ ∧ _ from ⟨p6, (HQ.out.2.trans H5.out.2.2 (fun _ _ z => z)).trans x6 (fun i _ z => by rcases z with z | z; exact z; simp [Value.ownBlock] at z)⟩)
          clear x6 p6
          go_wp2_with fail
          refine (pixels_calls H6.out.1 (by simp)).mono ?_
          rintro e w7 ⟨u7, rfl, r7, x7⟩
          have H7 := toHid (show _ ∧ _ from ⟨H6.out.1.ext x7 (fun _ _ z => z), H6.out.2.trans x7 (fun _ _ z => False.elim z)⟩)
          obtain ⟨pa7, pc7, hpv7, _⟩ := own_gen r7
          simp only [List.length_nil] at hpv7
          subst hpv7
          clear r7 x7
          go_wp2_with fail
          refine (updates_calls H7.out.1).mono ?_
          rintro e w8 ⟨rfl, rfl⟩
          try simp only [Nat.cast_zero, Int.natCast_zero]
          go_wp2
          go_roundw
          case rel => exact ⟨2, by go_num, by omega, H7.out.1, H7.out.2⟩
          case measure => simp [intOf]
        · have HX : Hid (Ext Nope w wo) := (ext0 HE1.out.1 HL.out.2.2.2).trans HQ.out.2 (fun i hi z => absurd (show i = w1.heap.size from z) (by omega))
          go_wp2
          go_ret
          exact ⟨rfl, HX.out⟩
end Go.Proofs.YtmmcadbkmfjcbaaDoor
