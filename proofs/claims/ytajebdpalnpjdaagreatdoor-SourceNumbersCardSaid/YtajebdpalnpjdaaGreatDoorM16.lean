/-
  The law, but for sanity.
-/
import Derived.Test.YtajebdpalnpjdaaGreatDoorM15
import Derived.Deep.DeepCutAuto
namespace Go.Proofs.YtajebdpalnpjdaaGreatDoor
open Go.RowKit
attribute [local go_sem] alloc_drewN setCell_drewN

theorem tmod_in (v : Int) {m : Int} (h : 0 < m) : -m < v.tmod m ∧ v.tmod m < m := by
  have h1 : (v.tmod m).natAbs = v.natAbs % m.natAbs := Int.natAbs_tmod ..
  have h2 := Nat.mod_lt v.natAbs (show 0 < m.natAbs by omega)
  omega
/-- What the law's font says. -/
theorem law_err (u A X Y : Int) : (lawErr u A (lawC X Y) = 0 ∧ 1 ≤ u ∧ u ≤ 999 ∧ 0 ≤ A ∧ A ≤ 128 ∧ -128 ≤ X ∧ X ≤ 128 ∧ -128 ≤ Y ∧ Y ≤ 128) ∨ (¬ lawErr u A (lawC X Y) = 0 ∧ ¬ lawErr u A (lawC X Y) = 4 ∧ ¬ (1 ≤ u ∧ u ≤ 999 ∧ 0 ≤ A ∧ A ≤ 128 ∧ -128 ≤ X ∧ X ≤ 128 ∧ -128 ≤ Y ∧ Y ≤ 128)) := by
  unfold lawErr
  by_cases hv : 1 ≤ u ∧ u ≤ 999
  · rw [if_neg (fun h => h hv)]
    have hc : glyphErr (lawG A (lawC X Y)) = if ¬ (-128 ≤ X ∧ X ≤ 128 ∧ -128 ≤ Y ∧ Y ≤ 128) then 12 else if A < 0 ∨ 128 < A then 3 else 0 := by
      unfold glyphErr
      have h1 : (lawG A (lawC X Y)).contours.all contourOk = decide (-128 ≤ X ∧ X ≤ 128 ∧ -128 ≤ Y ∧ Y ≤ 128) := by
        simp [lawG, lawC, contourOk, ptOk, inM, Bool.decide_and, Bool.and_assoc]
      rw [h1, if_neg (by simp [lawG, lawC, sumL])]
      by_cases h : -128 ≤ X ∧ X ≤ 128 ∧ -128 ≤ Y ∧ Y ≤ 128
      · rw [decide_eq_true h, if_neg (show ¬ (true = false) by decide), if_neg (not_not_intro h)]
        rfl
      · rw [decide_eq_false h, if_pos rfl, if_pos h]
    rw [hc]
    by_cases h : -128 ≤ X ∧ X ≤ 128 ∧ -128 ≤ Y ∧ Y ≤ 128
    · rw [if_neg (not_not_intro h)]
      by_cases hA : A < 0 ∨ 128 < A
      · rw [if_pos hA]; right; exact ⟨by decide, by decide, by omega⟩
      · rw [if_neg hA]; left; exact ⟨rfl, by omega⟩
    · rw [if_pos h]; right; exact ⟨by decide, by decide, by omega⟩
  · rw [if_pos hv]; right; exact ⟨by decide, by decide, by omega⟩
/-- What is asked of sanity. -/
def SanityIs (w : World) : Prop := ∀ W, Ext Nope w W → Calls Tryz.prog 4 #[] W fun e w' => e = .returned (.bool true) ∧ Ext Nope W w'
set_option maxRecDepth 100000 in
set_option maxHeartbeats 4000000 in
theorem numbers_calls {w : World} (G : Glob w) (hg : 11 ≤ w.heap.size) (hs : SanityIs w) {v a x y : Int} (hv : i64 v) (ha : i64 a) (hx : i64 x) (hy : i64 y) :
    Calls Tryz.prog 3 #[.int .i64 v, .int .i64 a, .agg #[.int .i64 x, .int .i64 y]] w fun e w' => e = .returned (.bool true) ∧ Ext Nope w w' := by
  have HG := toHid G
  have HS := toHid (hs _ ((Ext.refl _ _).alloc (.cells #[.int .i64 x, .int .i64 y] 22) : Ext Nope w _))
  clear G hs
  go_enter Tryz.func3, Tryz.ntmps3
  go_wp2_with fail
  refine HS.out.mono ?_
  rintro e w2 ⟨rfl, e2⟩
  have hz2 := (e2.block _ (by rw [alloc_size1]; exact Nat.lt_succ_self _) (fun z => z)).trans (heap_alloc_new w (.cells #[.int .i64 x, .int .i64 y] 22))
  have H2 := toHid (show _ ∧ _ from ⟨(ext0 ((Ext.refl Nope w).alloc _) e2 : Ext Nope w w2), hz2⟩)
  clear e2 hz2 HS
  go_wp2_with fail
  have e3 : Ext Nope w (w2.alloc (.cells #[.int .i64 v, .int .i64 (v.tmod 2000)] 3)) := H2.out.1.alloc _
  have hz3 := (heap_alloc_old w2 (.cells #[.int .i64 v, .int .i64 (v.tmod 2000)] 3) w.heap.size (lt_of_heap H2.out.2)).trans H2.out.2
  have ht3 := heap_alloc_new w2 (.cells #[.int .i64 v, .int .i64 (v.tmod 2000)] 3)
  have H3 := toHid (show _ ∧ _ ∧ _ from ⟨e3, hz3, ht3⟩)
  clear e3 hz3 ht3
  obtain ⟨tb, HTB⟩ : ∃ tb, Hid (w2.heap.size = tb) := ⟨_, rfl⟩
  rw [HTB.out] at H3
  simp only [HTB.out]
  go_loopw [27] (fun i wr => ∃ k : Nat, i = .int .i64 k ∧ k ≤ 2 ∧ Ext Nope w wr ∧ wr.heap[w.heap.size]? = some (.cells #[.int .i64 x, .int .i64 y] 22 (0, 0)) ∧ wr.heap[tb]? = some (.cells #[.int .i64 v, .int .i64 (v.tmod 2000)] 3 (0, 0))) (fun i _ => 2 - (intOf i).toNat)
  case atStart => exact ⟨0, rfl, Nat.zero_le _, H3.out⟩
  case round =>
    obtain ⟨k, rfl, hk, hE, hz, ht⟩ := hrel
    rename World => wr
    by_cases hk2 : k < 2
    · have hu : ∃ u, i64 u ∧ wr.cell? ⟨tb, k, none⟩ = some (.int .i64 u) := by
        have h : ∀ j, wr.cell? ⟨tb, j, none⟩ = (#[Value.int .i64 v, .int .i64 (v.tmod 2000)] : Array Value)[j]? := fun j => cell_of_blk ht j
        match k, hk2 with
        | 0, _ => exact ⟨v, hv, h 0⟩
        | 1, _ => exact ⟨v.tmod 2000, by have := tmod_in v (m := 2000) (by omega); unfold i64; omega, h 1⟩
      obtain ⟨u, hu, hc⟩ := hu
      have hx0 : wr.cell? ⟨w.heap.size, 0, none⟩ = some (.int .i64 x) := by rw [show (⟨w.heap.size, 0, none⟩ : Addr) = at_ w.heap.size 0 from rfl, cell_of_blk hz]; rfl
      have hy0 : wr.cell? ⟨w.heap.size, 1, none⟩ = some (.int .i64 y) := by rw [show (⟨w.heap.size, 1, none⟩ : Addr) = at_ w.heap.size 1 from rfl, cell_of_blk hz]; rfl
      have HW := toHid (show _ ∧ _ ∧ _ from ⟨hE, hz, ht⟩)
      have s1 : (0 : Int) ≤ (k : Int) := by omega
      have s2 : (k : Int) < 2 := by omega
      clear hE hz ht
      go_wp2_with fail
      go_quiet (fail)
      have H4 := toHid (show _ ∧ (wr.drewN nq).heap[w.heap.size]? = _ ∧ (wr.drewN nq).heap[tb]? = _ from ⟨(HW.out.1.drewN nq : Ext Nope w (wr.drewN nq)), HW.out.2.1, HW.out.2.2⟩)
      have hX := tmod_in x (m := 200) (by omega)
      have hY := tmod_in y (m := 200) (by omega)
      have hA := tmod_in a (m := 300) (by omega)
      generalize wr.drewN nq = w4 at *
      have t1 := num_size (n := u) (by unfold i64 at hu; omega) (by unfold i64 at hu; omega)
      have t2 := num_size (n := a.tmod 300) (by omega) (by omega)
      have t3 := num_size (n := x.tmod 200) (by omega) (by omega)
      have t4 := num_size (n := y.tmod 200) (by omega) (by omega)
      go_wp2_with fail
      refine (digits_calls hu).mono ?_
      rintro e w5 ⟨rfl, e5⟩
      go_wp2_with fail
      refine (digits_calls (n := a.tmod 300) (by unfold i64; omega)).mono ?_
      rintro e w6 ⟨rfl, e6⟩
      go_wp2_with fail
      refine (digits_calls (n := x.tmod 200) (by unfold i64; omega)).mono ?_
      rintro e w7 ⟨rfl, e7⟩
      go_wp2_with fail
      refine (digits_calls (n := y.tmod 200) (by unfold i64; omega)).mono ?_
      rintro e w8 ⟨rfl, e8⟩
      go_wp2_with fail
      have E8 : Ext Nope w4 w8 := ext0 (ext0 (ext0 e5 e6) e7) e8
      have H8 := toHid (show _ ∧ _ ∧ _ ∧ _ from ⟨(ext0 H4.out.1 E8 : Ext Nope w w8), (E8.block _ (lt_of_heap H4.out.2.1) (fun z => z)).trans H4.out.2.1, (E8.block _ (lt_of_heap H4.out.2.2) (fun z => z)).trans H4.out.2.2, HG.out.ext0 (ext0 H4.out.1 E8)⟩)
      have hg8 : 11 ≤ w8.heap.size := Nat.le_trans hg H8.out.1.size
      clear e5 e6 e7 e8 E8 H4 HW hx0 hy0 hc t1 t2 t3 t4
      rw [law_text]
      obtain ⟨X, HX⟩ : ∃ X, Hid (x.tmod 200 = X) := ⟨_, rfl⟩
      obtain ⟨Y, HY⟩ : ∃ Y, Hid (y.tmod 200 = Y) := ⟨_, rfl⟩
      obtain ⟨A, HAA⟩ : ∃ A, Hid (a.tmod 300 = A) := ⟨_, rfl⟩
      rw [HX.out] at hX ⊢
      rw [HY.out] at hY ⊢
      rw [HAA.out] at hA ⊢
      have hz18 := num_size (n := u) (by unfold i64 at hu; omega) (by unfold i64 at hu; omega)
      have hA64 : i64 A := by unfold i64; omega
      have hX64 : i64 X := by unfold i64; omega
      have hY64 : i64 Y := by unfold i64; omega
      by_cases hlong : 9999999 < u.natAbs
      · have s3 : IntKind.i64.wrap 0 = 0 := rfl
        refine (parse_bad H8.out.2.2.2 hg8 (s := num u) (num_not (by decide) (by decide)) (num_not (by decide) (by decide)) (by omega) (long_bad hu hlong) (ls := [joinB 32 [k_glyph, num A], joinB 32 (k_contour :: (lawC X Y).map ptText)]) (fun l hl => ?_) ?_).mono ?_
        · simp only [List.mem_cons, List.not_mem_nil, or_false] at hl
          rcases hl with rfl | rfl
          · exact glyph_line_not A
          · exact law_line_not X Y
        · exact Nat.le_trans (law_size hu hA64 hX64 hY64) (by omega)
        rintro e w9 ⟨rfl, e9⟩
        have H9 := toHid (show _ ∧ _ ∧ _ ∧ _ from ⟨(ext0 H8.out.1 e9 : Ext Nope w w9), (e9.block _ (lt_of_heap H8.out.2.1) (fun z => z)).trans H8.out.2.1, (e9.block _ (lt_of_heap H8.out.2.2.1) (fun z => z)).trans H8.out.2.2.1, H8.out.2.2.2.ext0 e9⟩)
        clear e9 H8
        have hl1 : u ≤ -10000000 ∨ (¬ u ≤ -10000000 ∧ 10000000 ≤ u) := by omega
        unfold noFont fontCells
        rcases hl1 with hl1 | ⟨hl1, hl2⟩
        · go_wp2_with fail
          refine (digits_calls hu).mono ?_
          rintro e wA ⟨rfl, eA⟩
          have EA : Ext Nope w9 wA := ext0 ((Ext.refl _ _).alloc _) eA
          have HA := toHid (show _ ∧ _ ∧ _ ∧ _ from ⟨(ext0 H9.out.1 EA : Ext Nope w wA), (EA.block _ (lt_of_heap H9.out.2.1) (fun z => z)).trans H9.out.2.1, (EA.block _ (lt_of_heap H9.out.2.2.1) (fun z => z)).trans H9.out.2.2.1, H9.out.2.2.2.ext0 EA⟩)
          clear eA EA H9
          go_wp2_with fail
          rw [law_text2]
          refine (parse_bad HA.out.2.2.2 (Nat.le_trans hg HA.out.1.size) (s := ⟨#[48] ++ (num u).data⟩) (zero_not _ (by decide) (by decide) (by decide)) (zero_not _ (by decide) (by decide) (by decide)) (by rw [zero_size]; omega) (zero_bad hu) (ls := []) (by simp) (Nat.le_trans (law_size2 hu) (by omega))).mono ?_
          rintro e wB ⟨rfl, eB⟩
          have HB := toHid (show _ ∧ _ ∧ _ from ⟨(ext0 HA.out.1 eB : Ext Nope w wB), (eB.block _ (lt_of_heap HA.out.2.1) (fun z => z)).trans HA.out.2.1, (eB.block _ (lt_of_heap HA.out.2.2.1) (fun z => z)).trans HA.out.2.2.1⟩)
          clear eB HA
          unfold noFont fontCells
          go_wp2_with fail
          refine ⟨⟨k + 1, congrArg (Value.int .i64) (by omega), by omega, HB.out.1.alloc _, (heap_alloc_old _ _ _ (lt_of_heap HB.out.2.1)).trans HB.out.2.1, (heap_alloc_old _ _ _ (lt_of_heap HB.out.2.2)).trans HB.out.2.2⟩, ?_⟩
          simp only [intOf]
          omega
        · go_wp2_with fail
          refine (digits_calls hu).mono ?_
          rintro e wA ⟨rfl, eA⟩
          have EA : Ext Nope w9 wA := ext0 ((Ext.refl _ _).alloc _) eA
          have HA := toHid (show _ ∧ _ ∧ _ ∧ _ from ⟨(ext0 H9.out.1 EA : Ext Nope w wA), (EA.block _ (lt_of_heap H9.out.2.1) (fun z => z)).trans H9.out.2.1, (EA.block _ (lt_of_heap H9.out.2.2.1) (fun z => z)).trans H9.out.2.2.1, H9.out.2.2.2.ext0 EA⟩)
          clear eA EA H9
          go_wp2_with fail
          rw [law_text2]
          refine (parse_bad HA.out.2.2.2 (Nat.le_trans hg HA.out.1.size) (s := ⟨#[48] ++ (num u).data⟩) (zero_not _ (by decide) (by decide) (by decide)) (zero_not _ (by decide) (by decide) (by decide)) (by rw [zero_size]; omega) (zero_bad hu) (ls := []) (by simp) (Nat.le_trans (law_size2 hu) (by omega))).mono ?_
          rintro e wB ⟨rfl, eB⟩
          have HB := toHid (show _ ∧ _ ∧ _ from ⟨(ext0 HA.out.1 eB : Ext Nope w wB), (eB.block _ (lt_of_heap HA.out.2.1) (fun z => z)).trans HA.out.2.1, (eB.block _ (lt_of_heap HA.out.2.2.1) (fun z => z)).trans HA.out.2.2.1⟩)
          clear eB HA
          unfold noFont fontCells
          go_wp2_with fail
          refine ⟨⟨k + 1, congrArg (Value.int .i64) (by omega), by omega, HB.out.1.alloc _, (heap_alloc_old _ _ _ (lt_of_heap HB.out.2.1)).trans HB.out.2.1, (heap_alloc_old _ _ _ (lt_of_heap HB.out.2.2)).trans HB.out.2.2⟩, ?_⟩
          simp only [intOf]
          omega
      · have hu7 : -9999999 ≤ u ∧ u ≤ 9999999 := by omega
        refine (parse_law H8.out.2.2.2 hg8 (v := u) (A := A) (c := lawC X Y) hu7 (by omega) (fun p hp => ?_) (by simp [lawC]) (Nat.le_trans (law_line_size hX64 hY64) (by omega)) (law_line_not X Y)).mono ?_
        · simp only [lawC, List.mem_cons, List.not_mem_nil, or_false] at hp
          rcases hp with rfl | rfl | rfl <;> (unfold Pt7; dsimp only; omega)
        rintro e w9 ⟨W, f, err, eW, ⟨herr, ag, cg, vc, pv, hf, ho⟩, e9, he⟩
        have ho9 := toHid (ho.ext e9 (fun b hb z => by have z : b = w8.heap.size := z; omega))
        have E9 : Ext Nope w8 w9 := eW.trans e9 (fun b hb z => by have z : b = w8.heap.size := z; omega)
        have H9 := toHid (show _ ∧ _ ∧ _ ∧ _ from ⟨(ext0 H8.out.1 E9 : Ext Nope w w9), (E9.block _ (lt_of_heap H8.out.2.1) (fun z => z)).trans H8.out.2.1, (E9.block _ (lt_of_heap H8.out.2.2.1) (fun z => z)).trans H8.out.2.2.1, H8.out.2.2.2.ext0 E9⟩)
        clear E9 e9 eW H8 ho
        have q64 := toHid (show max X (-X) ≤ 128 ↔ -128 ≤ X ∧ X ≤ 128 by omega)
        have q65 := toHid (show max Y (-Y) ≤ 128 ↔ -128 ≤ Y ∧ Y ≤ 128 by omega)
        have l1 : -10000000 < u := by omega
        have l2 : u < 10000000 := by omega
        have sn1 : IntKind.i64.wrap (-X) = -X := IntWalk.i64_in _ (by omega)
        have sn2 : IntKind.i64.wrap (-Y) = -Y := IntWalk.i64_in _ (by omega)
        have hAe := HAA.out
        rcases law_err u A X Y with ⟨h0, r1, r2, r3, r4, r5, r6, r7, r8⟩ | ⟨h0, h4, hr⟩
        · rw [h0] at herr
          obtain ⟨av, cv, hv1, _, _, hgg⟩ := own_gen (show w9.ownsRow _ _ _ (.slice ag 1 cg) 1 _ from ho9.out.g)
          cases hv1
          obtain ⟨g, hag⟩ := hgg (by omega)
          subst hag
          obtain ⟨ac, cc, hvc, _, _, hgc⟩ := own_gen (show w9.ownsRow _ _ _ vc 1 _ from ho9.out.k)
          obtain ⟨gc, hac⟩ := hgc (by omega)
          subst hac
          subst hvc
          obtain ⟨ap, cp, hvp, _, _, hgp⟩ := own_gen (show w9.ownsRow _ _ _ pv 3 _ from ho9.out.p)
          obtain ⟨gp, hap⟩ := hgp (by omega)
          subst hap
          subst hvp
          have cg0 : w9.cell? ⟨g, 0, none⟩ = some (.slice (some ⟨gc, 0, none⟩) 1 cc) := own_cell ho9.out.g (j := 0) rfl
          have cg5 : w9.cell? ⟨g, 5, none⟩ = some (.int .i64 A) := own_cell ho9.out.g (j := 5) rfl
          have cc0 : w9.cell? ⟨gc, 0, none⟩ = some (.slice (some ⟨gp, 0, none⟩) 3 cp) := own_cell ho9.out.k (j := 0) rfl
          have cp6 : w9.cell? ⟨gp, 6, none⟩ = some (.int .i64 X) := own_cell ho9.out.p (j := 6) rfl
          have cp7 : w9.cell? ⟨gp, 7, none⟩ = some (.int .i64 Y) := own_cell ho9.out.p (j := 7) rfl
          have cp8 : w9.cell? ⟨gp, 8, none⟩ = some (.bool true) := own_cell ho9.out.p (j := 8) rfl
          have lg : g < w9.heap.size := (World.ownsRow.lt ho9.out.g g rfl).2
          have lgc : gc < w9.heap.size := (World.ownsRow.lt ho9.out.k gc rfl).2
          have lgp : gp < w9.heap.size := (World.ownsRow.lt ho9.out.p gp rfl).2
          have he : e = .returned (.tuple #[.agg #[.string n_a, .int .i64 u, .slice none 0 0, .slice none 0 0, .int .i64 1, .slice none 0 0, .slice none 0 0, .slice none 0 0, .string ⟨#[]⟩, .slice none 0 0, .slice (some ⟨g, 0, none⟩) 1 cg], .int .i64 0, .int .i64 0]) := by rw [he, herr, if_pos rfl, hf]
          subst he
          have m1 : max X (-X) ≤ 128 := q64.out.2 ⟨r5, r6⟩
          have m2 : max Y (-Y) ≤ 128 := q65.out.2 ⟨r7, r8⟩
          clear hf herr h0 ho9 q64 q65
          go_wp2_with fail
          refine (digits_calls hu).mono ?_
          rintro e wA ⟨rfl, eA⟩
          have EA : Ext Nope w9 wA := ext0 ((Ext.refl _ _).alloc _) eA
          have HA := toHid (show _ ∧ _ ∧ _ ∧ _ from ⟨(ext0 H9.out.1 EA : Ext Nope w wA), (EA.block _ (lt_of_heap H9.out.2.1) (fun z => z)).trans H9.out.2.1, (EA.block _ (lt_of_heap H9.out.2.2.1) (fun z => z)).trans H9.out.2.2.1, H9.out.2.2.2.ext0 EA⟩)
          clear eA EA H9
          go_wp2_with fail
          rw [law_text2]
          refine (parse_bad HA.out.2.2.2 (Nat.le_trans hg HA.out.1.size) (s := ⟨#[48] ++ (num u).data⟩) (zero_not _ (by decide) (by decide) (by decide)) (zero_not _ (by decide) (by decide) (by decide)) (by rw [zero_size]; omega) (zero_bad hu) (ls := []) (by simp) (Nat.le_trans (law_size2 hu) (by omega))).mono ?_
          rintro e wB ⟨rfl, eB⟩
          have HB := toHid (show _ ∧ _ ∧ _ from ⟨(ext0 HA.out.1 eB : Ext Nope w wB), (eB.block _ (lt_of_heap HA.out.2.1) (fun z => z)).trans HA.out.2.1, (eB.block _ (lt_of_heap HA.out.2.2.1) (fun z => z)).trans HA.out.2.2.1⟩)
          clear eB HA
          unfold noFont fontCells
          go_wp2_with fail
          refine ⟨⟨k + 1, congrArg (Value.int .i64) (by omega), by omega, HB.out.1.alloc _, (heap_alloc_old _ _ _ (lt_of_heap HB.out.2.1)).trans HB.out.2.1, (heap_alloc_old _ _ _ (lt_of_heap HB.out.2.2)).trans HB.out.2.2⟩, ?_⟩
          simp only [intOf]
          omega
        · rw [herr, if_neg h0] at he
          obtain ⟨E, HEE⟩ : ∃ E, Hid (lawErr u A (lawC X Y) = E) := ⟨_, rfl⟩
          rw [HEE.out] at he h0 h4
          subst he
          clear hf herr ho9
          unfold noFont fontCells
          have HR := toHid hr
          clear hr
          go_upto_region 9 with fail
          have E10 : Ext Nope w9 (w9.alloc (.cells fontCells 36)) := (Ext.refl _ _).alloc _
          generalize w9.alloc _ = w10 at *
          have H10 := toHid E10
          clear E10
          go_cut [17] (fun s wx => s = .bool false ∧ wx = w10)
          case first =>
            by_cases q1 : 1 ≤ u
            · by_cases q2 : u ≤ 999
              · by_cases q3 : 0 ≤ A
                · by_cases q4 : A ≤ 128
                  · by_cases q5 : max X (-X) ≤ 128
                    · by_cases q6 : max Y (-Y) ≤ 128
                      · exact absurd ⟨q1, q2, q3, q4, (q64.out.1 q5).1, (q64.out.1 q5).2, (q65.out.1 q6).1, (q65.out.1 q6).2⟩ HR.out
                      · go_wp2_with fail
                        go_meet
                        exact ⟨rfl, rfl⟩
                    · go_wp2_with fail
                      go_meet
                      exact ⟨rfl, rfl⟩
                  · go_wp2_with fail
                    go_meet
                    exact ⟨rfl, rfl⟩
                · go_wp2_with fail
                  go_meet
                  exact ⟨rfl, rfl⟩
              · go_wp2_with fail
                go_meet
                exact ⟨rfl, rfl⟩
            · go_wp2_with fail
              go_meet
              exact ⟨rfl, rfl⟩
          case rest =>
            obtain ⟨rfl, hw⟩ := hcut
            subst hw
            have b0 : (E == 0) = false := by simpa using h0
            have b4 : (E == 4) = false := by simpa using h4
            go_wp2_with fail
            refine (digits_calls hu).mono ?_
            rintro e wA ⟨rfl, eA⟩
            have EA : Ext Nope w9 wA := ext0 H10.out eA
            have HA := toHid (show _ ∧ _ ∧ _ ∧ _ from ⟨(ext0 H9.out.1 EA : Ext Nope w wA), (EA.block _ (lt_of_heap H9.out.2.1) (fun z => z)).trans H9.out.2.1, (EA.block _ (lt_of_heap H9.out.2.2.1) (fun z => z)).trans H9.out.2.2.1, H9.out.2.2.2.ext0 EA⟩)
            clear eA EA H9
            go_wp2_with fail
            rw [law_text2]
            refine (parse_bad HA.out.2.2.2 (Nat.le_trans hg HA.out.1.size) (s := ⟨#[48] ++ (num u).data⟩) (zero_not _ (by decide) (by decide) (by decide)) (zero_not _ (by decide) (by decide) (by decide)) (by rw [zero_size]; omega) (zero_bad hu) (ls := []) (by simp) (Nat.le_trans (law_size2 hu) (by omega))).mono ?_
            rintro e wB ⟨rfl, eB⟩
            have HB := toHid (show _ ∧ _ ∧ _ from ⟨(ext0 HA.out.1 eB : Ext Nope w wB), (eB.block _ (lt_of_heap HA.out.2.1) (fun z => z)).trans HA.out.2.1, (eB.block _ (lt_of_heap HA.out.2.2.1) (fun z => z)).trans HA.out.2.2.1⟩)
            clear eB HA
            unfold noFont fontCells
            go_wp2_with fail
            refine ⟨⟨k + 1, congrArg (Value.int .i64) (by omega), by omega, HB.out.1.alloc _, (heap_alloc_old _ _ _ (lt_of_heap HB.out.2.1)).trans HB.out.2.1, (heap_alloc_old _ _ _ (lt_of_heap HB.out.2.2)).trans HB.out.2.2⟩, ?_⟩
            simp only [intOf]
            omega
    · have hkk : k = 2 := by omega
      subst hkk
      go_wp2_with fail
      go_ret
      exact ⟨rfl, hE⟩
end Go.Proofs.YtajebdpalnpjdaaGreatDoor
