/-
  What an act does without memories, and what 'filled' makes of a budget that is out of range.
-/
import Derived.Test.YtkloaadaicklfaaL2
namespace Go.Proofs.Ytkloaadaicklfaa
open Go.RowKit
attribute [local go_sem] alloc_drewN setCell_drewN

theorem rfindsNone_nil (w : World) (o : Own) : RFindsNone w (.pointer none) o := fun w' _ => rfind_nil o w'

set_option maxRecDepth 100000 in
set_option maxHeartbeats 4000000 in
theorem do_use_nil (w : World) (wh n s : Int) (hw : wh % 6 = 3) (hw0 : 0 ≤ wh) (hw2 : wh ≤ 255) (n0 : 0 ≤ n) (n1 : n ≤ 255) (s0 : -9223372036854775808 ≤ s) (s1 : s ≤ 9223372036854775807) :
    Calls Try.prog 23 #[.pointer none, .pointer none, .agg #[.int .u8 wh, .int .u8 n, .int .i64 s]] w fun e w' => e = .returned (.bool true) ∧ Ext Nope w w' := by
  have n9 : 0 ≤ n % 9 := by omega
  have n10 : n % 9 ≤ 1000 := by omega
  go_enter Try.func23, Try.ntmps23
  go_wp2_with fail
  refine (key_calls (n % 9) _ n9 n10).mono ?_
  rintro e w1 ⟨rfl, hE⟩
  have hbox : w1.heap[w.heap.size]? = some (.cells #[.int .u8 wh, .int .u8 n, .int .i64 s] 37 (0, 0)) := (hE.block _ (by simp) (fun z => z)).trans (heap_alloc_new w _)
  have E1 : Ext Nope w w1 := ext0 ((Ext.refl _ _).alloc _) hE
  have B0 := cell_of_blk hbox 0
  have B1 := cell_of_blk hbox 1
  have B2 := cell_of_blk hbox 2
  simp only [List.getElem?_toArray, List.getElem?_cons_zero, List.getElem?_cons_succ] at B0 B1 B2
  have hbl := lt_of_heap hbox
  have hnF : ¬ Nope w.heap.size := fun z => z
  have hnG : ¬ Nope w.heap.size := fun z => z
  have hnF1 : ¬ Nope w1.heap.size := fun z => z
  have hnG1 : ¬ Nope w1.heap.size := fun z => z
  have t3 : (wh % 6 == 3) = true := by simp [hw]
  clear hw
  go_wp2
  go_region_held3 (fun w' => w'.cell? ⟨w1.heap.size, 0, none⟩ = some (.int .i64 (keyA (n % 9)).f) ∧ w'.cell? ⟨w1.heap.size, 1, none⟩ = some (.int .i64 (keyA (n % 9)).k) ∧ w'.cell? ⟨w1.heap.size, 2, none⟩ = some (.int .i64 (keyA (n % 9)).n) ∧ w'.cell? ⟨w1.heap.size, 3, none⟩ = some (.int .i64 (keyA (n % 9)).r) ∧ w'.cell? ⟨w.heap.size, 2, none⟩ = some (.int .i64 s)) (first | go_keep | exact keepC e4 hnG1 hnG (by have := e2.size; simp at this ⊢; omega) (by have := e2.size; simp at this ⊢; omega) (by first | assumption | go_keep) | exact keepC e2 hnF1 hnF (by simp) (by simp; omega) (by first | assumption | go_keep))
    ((first
      | (go_at_call 14; refine (use_none _ (keyA (n % 9)) _ (.nil _ _)).mono ?_; rintro e w2 ⟨rfl, e2⟩)
      | (go_at_call 31; refine (ruse_none _ (keyA (n % 9)) _ (rfindsNone_nil _ _)).mono ?_; rintro e w4 ⟨rfl, e4⟩)))
  all_goals
    go_wp2
    go_ret
    exact ⟨rfl, ext0 (ext0 (by repeat (first | exact E1 | refine Ext.drew ?_ | refine Ext.alloc ?_ _)) e2) (ext0 (by repeat (first | exact Ext.refl _ _ | refine Ext.drew ?_ | refine Ext.alloc ?_ _)) e4)⟩

set_option maxRecDepth 100000 in
set_option maxHeartbeats 4000000 in
theorem do_pin_nil (w : World) (wh n s : Int) (hw : wh % 6 = 4) (hw0 : 0 ≤ wh) (hw2 : wh ≤ 255) (n0 : 0 ≤ n) (n1 : n ≤ 255) (s0 : -9223372036854775808 ≤ s) (s1 : s ≤ 9223372036854775807) :
    Calls Try.prog 23 #[.pointer none, .pointer none, .agg #[.int .u8 wh, .int .u8 n, .int .i64 s]] w fun e w' => e = .returned (.bool true) ∧ Ext Nope w w' := by
  have n9 : 0 ≤ n % 9 := by omega
  have n10 : n % 9 ≤ 1000 := by omega
  go_enter Try.func23, Try.ntmps23
  go_wp2_with fail
  refine (key_calls (n % 9) _ n9 n10).mono ?_
  rintro e w1 ⟨rfl, hE⟩
  have hbox : w1.heap[w.heap.size]? = some (.cells #[.int .u8 wh, .int .u8 n, .int .i64 s] 37 (0, 0)) := (hE.block _ (by simp) (fun z => z)).trans (heap_alloc_new w _)
  have E1 : Ext Nope w w1 := ext0 ((Ext.refl _ _).alloc _) hE
  have B0 := cell_of_blk hbox 0
  have B1 := cell_of_blk hbox 1
  have B2 := cell_of_blk hbox 2
  simp only [List.getElem?_toArray, List.getElem?_cons_zero, List.getElem?_cons_succ] at B0 B1 B2
  have hbl := lt_of_heap hbox
  have hnF : ¬ Nope w.heap.size := fun z => z
  have hnG : ¬ Nope w.heap.size := fun z => z
  have hnF1 : ¬ Nope w1.heap.size := fun z => z
  have hnG1 : ¬ Nope w1.heap.size := fun z => z
  have t3 : (wh % 6 == 3) = false := by simp [hw]
  have t4 : (wh % 6 == 4) = true := by simp [hw]
  clear hw
  go_wp2
  go_region_held3 (fun w' => w'.cell? ⟨w1.heap.size, 0, none⟩ = some (.int .i64 (keyA (n % 9)).f) ∧ w'.cell? ⟨w1.heap.size, 1, none⟩ = some (.int .i64 (keyA (n % 9)).k) ∧ w'.cell? ⟨w1.heap.size, 2, none⟩ = some (.int .i64 (keyA (n % 9)).n) ∧ w'.cell? ⟨w1.heap.size, 3, none⟩ = some (.int .i64 (keyA (n % 9)).r) ∧ w'.cell? ⟨w.heap.size, 2, none⟩ = some (.int .i64 s)) (first | go_keep | exact keepC e4 hnG1 hnG (by have := e2.size; simp at this ⊢; omega) (by have := e2.size; simp at this ⊢; omega) (by first | assumption | go_keep) | exact keepC e2 hnF1 hnF (by simp) (by simp; omega) (by first | assumption | go_keep))
    ((first
      | (go_at_call 15; refine (pin_none _ (keyA (n % 9)) _ _ (.nil _ _)).mono ?_; rintro e w2 ⟨rfl, e2⟩)
      | (go_at_call 32; refine (rpin_none _ (keyA (n % 9)) _ _ (rfindsNone_nil _ _)).mono ?_; rintro e w4 ⟨rfl, e4⟩)))
  all_goals
    go_wp2
    go_ret
    exact ⟨rfl, ext0 (ext0 (by repeat (first | exact E1 | refine Ext.drew ?_ | refine Ext.alloc ?_ _)) e2) (ext0 (by repeat (first | exact Ext.refl _ _ | refine Ext.drew ?_ | refine Ext.alloc ?_ _)) e4)⟩

set_option maxRecDepth 100000 in
set_option maxHeartbeats 4000000 in
theorem do_drop_nil (w : World) (wh n s : Int) (hw : wh % 6 = 5) (hw0 : 0 ≤ wh) (hw2 : wh ≤ 255) (n0 : 0 ≤ n) (n1 : n ≤ 255) (s0 : -9223372036854775808 ≤ s) (s1 : s ≤ 9223372036854775807) :
    Calls Try.prog 23 #[.pointer none, .pointer none, .agg #[.int .u8 wh, .int .u8 n, .int .i64 s]] w fun e w' => e = .returned (.bool true) ∧ Ext Nope w w' := by
  have n9 : 0 ≤ n % 9 := by omega
  have n10 : n % 9 ≤ 1000 := by omega
  go_enter Try.func23, Try.ntmps23
  go_wp2_with fail
  refine (key_calls (n % 9) _ n9 n10).mono ?_
  rintro e w1 ⟨rfl, hE⟩
  have hbox : w1.heap[w.heap.size]? = some (.cells #[.int .u8 wh, .int .u8 n, .int .i64 s] 37 (0, 0)) := (hE.block _ (by simp) (fun z => z)).trans (heap_alloc_new w _)
  have E1 : Ext Nope w w1 := ext0 ((Ext.refl _ _).alloc _) hE
  have B0 := cell_of_blk hbox 0
  have B1 := cell_of_blk hbox 1
  have B2 := cell_of_blk hbox 2
  simp only [List.getElem?_toArray, List.getElem?_cons_zero, List.getElem?_cons_succ] at B0 B1 B2
  have hbl := lt_of_heap hbox
  have hnF : ¬ Nope w.heap.size := fun z => z
  have hnG : ¬ Nope w.heap.size := fun z => z
  have hnF1 : ¬ Nope w1.heap.size := fun z => z
  have hnG1 : ¬ Nope w1.heap.size := fun z => z
  have t3 : (wh % 6 == 3) = false := by simp [hw]
  have t4 : (wh % 6 == 4) = false := by simp [hw]
  have t5 : (wh % 6 == 5) = true := by simp [hw]
  clear hw
  go_wp2
  go_region_held3 (fun w' => w'.cell? ⟨w1.heap.size, 0, none⟩ = some (.int .i64 (keyA (n % 9)).f) ∧ w'.cell? ⟨w1.heap.size, 1, none⟩ = some (.int .i64 (keyA (n % 9)).k) ∧ w'.cell? ⟨w1.heap.size, 2, none⟩ = some (.int .i64 (keyA (n % 9)).n) ∧ w'.cell? ⟨w1.heap.size, 3, none⟩ = some (.int .i64 (keyA (n % 9)).r) ∧ w'.cell? ⟨w.heap.size, 2, none⟩ = some (.int .i64 s)) (first | go_keep | exact keepC e4 hnG1 hnG (by have := e2.size; simp at this ⊢; omega) (by have := e2.size; simp at this ⊢; omega) (by first | assumption | go_keep) | exact keepC e2 hnF1 hnF (by simp) (by simp; omega) (by first | assumption | go_keep))
    ((first
      | (go_at_call 16; refine (drop_none _ (keyA (n % 9)) _ (.nil _ _)).mono ?_; rintro e w2 ⟨rfl, e2⟩)
      | (go_at_call 33; refine (rdrop_none _ (keyA (n % 9)) _ (rfindsNone_nil _ _)).mono ?_; rintro e w4 ⟨rfl, e4⟩)))
  all_goals
    go_wp2
    go_ret
    exact ⟨rfl, ext0 (ext0 (by repeat (first | exact E1 | refine Ext.drew ?_ | refine Ext.alloc ?_ _)) e2) (ext0 (by repeat (first | exact Ext.refl _ _ | refine Ext.drew ?_ | refine Ext.alloc ?_ _)) e4)⟩

set_option maxRecDepth 100000 in
set_option maxHeartbeats 4000000 in
theorem do_put_nil (w : World) (wh n s : Int) (hw : wh % 6 < 3) (hw0 : 0 ≤ wh) (hw2 : wh ≤ 255) (n0 : 0 ≤ n) (n1 : n ≤ 255) (s0 : -9223372036854775808 ≤ s) (s1 : s ≤ 9223372036854775807) :
    Calls Try.prog 23 #[.pointer none, .pointer none, .agg #[.int .u8 wh, .int .u8 n, .int .i64 s]] w fun e w' => e = .returned (.bool true) ∧ Ext Nope w w' := by
  have n9 : 0 ≤ n % 9 := by omega
  have n10 : n % 9 ≤ 1000 := by omega
  go_enter Try.func23, Try.ntmps23
  go_wp2_with fail
  refine (key_calls (n % 9) _ n9 n10).mono ?_
  rintro e w1 ⟨rfl, hE⟩
  have hbox : w1.heap[w.heap.size]? = some (.cells #[.int .u8 wh, .int .u8 n, .int .i64 s] 37 (0, 0)) := (hE.block _ (by simp) (fun z => z)).trans (heap_alloc_new w _)
  have E1 : Ext Nope w w1 := ext0 ((Ext.refl _ _).alloc _) hE
  have B0 := cell_of_blk hbox 0
  have B1 := cell_of_blk hbox 1
  have B2 := cell_of_blk hbox 2
  simp only [List.getElem?_toArray, List.getElem?_cons_zero, List.getElem?_cons_succ] at B0 B1 B2
  have hbl := lt_of_heap hbox
  have hnF : ¬ Nope w.heap.size := fun z => z
  have hnG : ¬ Nope w.heap.size := fun z => z
  have hnF1 : ¬ Nope w1.heap.size := fun z => z
  have hnG1 : ¬ Nope w1.heap.size := fun z => z
  have t3 : (wh % 6 == 3) = false := by simp; omega
  have t4 : (wh % 6 == 4) = false := by simp; omega
  have t5 : (wh % 6 == 5) = false := by simp; omega
  clear hw
  have K0 : (w1.alloc (.cells (ownCells (keyA (n % 9))) 34 (0, 0))).heap[w1.heap.size]? = some (.cells (ownCells (keyA (n % 9))) 34 (0, 0)) := heap_alloc_new _ _
  have hb0 : (w1.alloc (.cells (ownCells (keyA (n % 9))) 34 (0, 0))).heap[w.heap.size]? = some (.cells #[.int .u8 wh, .int .u8 n, .int .i64 s] 37 (0, 0)) := (heap_alloc_old _ _ _ hbl).trans hbox
  have E2 : Ext Nope w (w1.alloc (.cells (ownCells (keyA (n % 9))) 34 (0, 0))) := E1.alloc _
  have hF1 : w1.heap.size < (w1.alloc (.cells (ownCells (keyA (n % 9))) 34 (0, 0))).heap.size := by simp
  go_wp2_with fail
  generalize w1.alloc (.cells (ownCells (keyA (n % 9))) 34 (0, 0)) = wa at *
  refine (put_nil (keyA (n % 9)) s wa).mono ?_
  rintro e w2 ⟨rfl, e2⟩
  clear B0 B1 B2
  obtain ⟨c0, c1, c2, c3⟩ := key_box K0 (e2.block _ hF1 hnF1)
  have d2 := cell_of_blk ((e2.block _ (by omega) hnF).trans hb0) 2
  simp only [List.getElem?_toArray, List.getElem?_cons_zero, List.getElem?_cons_succ] at d2
  go_wp2_with fail
  refine (rput_nil (keyA (n % 9)) s w2).mono ?_
  rintro e w4 ⟨rfl, e4⟩
  clear d2 c0 c1 c2 c3
  go_wp2_with fail
  refine (same_calls (keysAt_nil w4 0) (keysAt_nil w4 0) (by simp)).mono ?_
  rintro e w5 ⟨rfl, e5⟩
  go_wp2
  go_ret
  exact ⟨rfl, ext0 (ext0 (ext0 E2 e2) e4) e5⟩

theorem do_nil (w : World) (wh n s : Int) (hw0 : 0 ≤ wh) (hw2 : wh ≤ 255) (n0 : 0 ≤ n) (n1 : n ≤ 255) (s0 : -9223372036854775808 ≤ s) (s1 : s ≤ 9223372036854775807) :
    Calls Try.prog 23 #[.pointer none, .pointer none, .agg #[.int .u8 wh, .int .u8 n, .int .i64 s]] w fun e w' => e = .returned (.bool true) ∧ Ext Nope w w' := by
  by_cases h3 : wh % 6 = 3
  · exact do_use_nil w wh n s h3 hw0 hw2 n0 n1 s0 s1
  by_cases h4 : wh % 6 = 4
  · exact do_pin_nil w wh n s h4 hw0 hw2 n0 n1 s0 s1
  by_cases h5 : wh % 6 = 5
  · exact do_drop_nil w wh n s h5 hw0 hw2 n0 n1 s0 s1
  · exact do_put_nil w wh n s (by omega) hw0 hw2 n0 n1 s0 s1

set_option maxHeartbeats 4000000 in
theorem filled_bad (B : Int) (h : B < 0 ∨ 1073741824 < B) (w : World) (a : Option Addr) (len cap : Nat) (ha : ActsAt w a len) (hlen : len ≤ 9223372036854775807) :
    Calls Try.prog 11 #[.int .i64 B, .slice a len cap] w fun e w' => e = .returned (.tuple #[.pointer none, .pointer none, .bool true]) ∧ Ext Nope w w' := by
  obtain rfl | ⟨b, off, rfl, hb, hc⟩ := ha
  · go_enter Try.func11, Try.ntmps11
    go_wp2_with fail
    refine (new_bad B w h).mono ?_
    rintro e wz ⟨rfl, rfl⟩
    go_wp2_with fail
    refine (rnew_bad B w h).mono ?_
    rintro e wz ⟨rfl, rfl⟩
    go_wp2_with fail
    refine wp_loop_rounds 1 ?_
    rw [rounds_succ]
    go_wp2
    go_ret3
    exact ⟨rfl, Ext.refl _ _⟩
  · go_enter Try.func11, Try.ntmps11
    go_wp2_with fail
    refine (new_bad B w h).mono ?_
    rintro e wz ⟨rfl, rfl⟩
    go_wp2_with fail
    refine (rnew_bad B w h).mono ?_
    rintro e wz ⟨rfl, rfl⟩
    go_wp2_with fail
    go_loopw [9] (fun i wr => ∃ (k : Nat), i = .int .i64 k ∧ k ≤ 60 ∧ k ≤ len ∧ Ext Nope w wr) (fun i _ => 60 - (intOf i).toNat)
    case atStart => exact ⟨0, rfl, by omega, by omega, Ext.refl _ _⟩
    case round =>
      obtain ⟨k, rfl, hk6, hkl, hE⟩ := hrel
      by_cases hk : k < len ∧ k < 60
      · obtain ⟨hk1, hk2⟩ := hk
        obtain ⟨wh, n, s, ⟨w0', w1'⟩, ⟨n0', n1'⟩, ⟨s0', s1'⟩, c0, c1, c2⟩ := hc k hk1
        have hbk := hE.block b hb (fun z => z)
        have d0 := (World.cell?_of_block (w := w) (a := ⟨b, off + k * 3, none⟩) hbk).trans c0
        have d1 := (World.cell?_of_block (w := w) (a := ⟨b, off + k * 3 + 1, none⟩) hbk).trans c1
        have d2 := (World.cell?_of_block (w := w) (a := ⟨b, off + k * 3 + 2, none⟩) hbk).trans c2
        clear c0 c1 c2 hbk hc hb
        go_wp2_with fail
        refine (do_nil wr wh n s w0' w1' n0' n1' s0' s1').mono ?_
        rintro e w3 ⟨rfl, e3⟩
        have hE3 := ext0 hE e3
        clear hE e3 d0 d1 d2
        go_wp2_with fail
        refine (used_nil w3).mono ?_
        rintro e wz ⟨rfl, rfl⟩
        go_wp2_with fail
        refine (rused_nil w3).mono ?_
        rintro e wz ⟨rfl, rfl⟩
        go_wp2_with fail
        refine (list_nil w3).mono ?_
        rintro e wz ⟨rfl, rfl⟩
        go_wp2_with fail
        refine (rlist_nil w3).mono ?_
        rintro e wz ⟨rfl, rfl⟩
        go_wp2_with fail
        refine (same_calls (keysAt_nil w3 0) (keysAt_nil w3 0) (by simp)).mono ?_
        rintro e w6 ⟨rfl, e6⟩
        have hE6 := ext0 hE3 e6
        clear hE3 e6
        go_wp2
        go_roundw
        case rel => exact ⟨k + 1, by go_num, by omega, by omega, hE6⟩
        case measure => simp [intOf]; omega
      · clear hc
        by_cases hkk : k < len
        · have h60 : ¬ k < 60 := fun z => hk ⟨hkk, z⟩
          clear hk
          go_wp2
          go_ret3
          exact ⟨rfl, hE⟩
        · clear hk
          go_wp2
          go_ret3
          exact ⟨rfl, hE⟩

end Go.Proofs.Ytkloaadaicklfaa
