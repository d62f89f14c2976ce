/-
  What an act does to both memories: they agree, and both are what the plain acts say.
-/
import Derived.Test.YtkloaadaicklfaaS0
namespace Go.Proofs.Ytkloaadaicklfaa
open Go.RowKit
attribute [local go_sem] alloc_drewN setCell_drewN

theorem keepC {F : Nat → Prop} {wa wb : World} {X Y : Nat} {v0 v1 v2 v3 v4 : Value} (e : Ext F wa wb) (hX : ¬ F X) (hY : ¬ F Y) (lX : X < wa.heap.size) (lY : Y < wa.heap.size)
    (h : wa.cell? ⟨X, 0, none⟩ = some v0 ∧ wa.cell? ⟨X, 1, none⟩ = some v1 ∧ wa.cell? ⟨X, 2, none⟩ = some v2 ∧ wa.cell? ⟨X, 3, none⟩ = some v3 ∧ wa.cell? ⟨Y, 2, none⟩ = some v4) :
    wb.cell? ⟨X, 0, none⟩ = some v0 ∧ wb.cell? ⟨X, 1, none⟩ = some v1 ∧ wb.cell? ⟨X, 2, none⟩ = some v2 ∧ wb.cell? ⟨X, 3, none⟩ = some v3 ∧ wb.cell? ⟨Y, 2, none⟩ = some v4 := by
  obtain ⟨h0, h1, h2, h3, h4⟩ := h
  have hx := e.block X lX hX
  have hy := e.block Y lY hY
  exact ⟨(World.cell?_of_block (w := wa) hx).trans h0, (World.cell?_of_block (w := wa) hx).trans h1, (World.cell?_of_block (w := wa) hx).trans h2, (World.cell?_of_block (w := wa) hx).trans h3, (World.cell?_of_block (w := wa) hy).trans h4⟩

set_option maxRecDepth 100000 in
set_option maxHeartbeats 4000000 in
theorem do_use {w : World} {bm br : Nat} {B : Int} {xs : List Kept} {F G : Nat → Prop} (h : Both w bm br B xs F G) (hl : xs.length ≤ 900) (wh n s : Int) (hw : wh % 6 = 3) (hw0 : 0 ≤ wh) (hw2 : wh ≤ 255) (n0 : 0 ≤ n) (n1 : n ≤ 255) (s0 : -9223372036854775808 ≤ s) (s1 : s ≤ 9223372036854775807) :
    Calls Try.prog 23 #[ptr bm, ptr br, .agg #[.int .u8 wh, .int .u8 n, .int .i64 s]] w fun e w' => e = .returned (.bool true) ∧ ActOK w bm br B F G ((useA xs (keyA (n % 9))).2) w' := by
  obtain ⟨hm, hr, hk, hap, hfl, hgl⟩ := h
  have HM : ∀ w', Ext Nope w w' → MemIs w' bm B xs F := fun w' e => hm.ext e (fun _ _ z => z)
  have HR : ∀ w1 w2, Ext Nope w w1 → Ext F w1 w2 → RefIs w2 br B xs G := fun w1 w2 e1 e2 => (hr.ext e1 (fun _ _ z => z)).ext e2 (fun b hb hf => hap b hf hb)
  have n9 : 0 ≤ n % 9 := by omega
  have n10 : n % 9 ≤ 1000 := by omega
  go_enter Try.func23, Try.ntmps23
  go_wp2_with fail
  refine (key_calls (n % 9) _ n9 n10).mono ?_
  rintro e w1 ⟨rfl, hE⟩
  have hbox : w1.heap[w.heap.size]? = some (.cells #[.int .u8 wh, .int .u8 n, .int .i64 s] 37 (0, 0)) := (hE.block _ (by simp) (fun z => z)).trans (heap_alloc_new w _)
  have E1 : Ext Nope w w1 := ext0 ((Ext.refl _ _).alloc _) hE
  have B0 := cell_of_blk hbox 0
  have B1 := cell_of_blk hbox 1
  have B2 := cell_of_blk hbox 2
  simp only [List.getElem?_toArray, List.getElem?_cons_zero, List.getElem?_cons_succ] at B0 B1 B2
  have hbl := lt_of_heap hbox
  have hnF : ¬ F w.heap.size := fun z => by have := hfl _ z; omega
  have hnG : ¬ G w.heap.size := fun z => by have := hgl _ z; omega
  have hnF1 : ¬ F w1.heap.size := fun z => by have := hfl _ z; omega
  have hnG1 : ¬ G w1.heap.size := fun z => by have := hgl _ z; omega
  have t3 : (wh % 6 == 3) = true := by simp [hw]
  clear hw
  go_wp2
  go_region_held3 (fun w' => w'.cell? ⟨w1.heap.size, 0, none⟩ = some (.int .i64 (keyA (n % 9)).f) ∧ w'.cell? ⟨w1.heap.size, 1, none⟩ = some (.int .i64 (keyA (n % 9)).k) ∧ w'.cell? ⟨w1.heap.size, 2, none⟩ = some (.int .i64 (keyA (n % 9)).n) ∧ w'.cell? ⟨w1.heap.size, 3, none⟩ = some (.int .i64 (keyA (n % 9)).r) ∧ w'.cell? ⟨w.heap.size, 2, none⟩ = some (.int .i64 s)) (first | go_keep | exact keepC e4 hnG1 hnG (by have := e2.size; simp at this ⊢; omega) (by have := e2.size; simp at this ⊢; omega) (by first | assumption | go_keep) | exact keepC e2 hnF1 hnF (by simp) (by simp; omega) (by first | assumption | go_keep))
    ((first
      | (go_at_call 14; refine (muse_calls (HM _ (by repeat (first | exact E1 | refine Ext.drew ?_ | refine Ext.alloc ?_ _))) hk (keyA (n % 9))).mono ?_; rintro e w2 ⟨rfl, m2, e2⟩)
      | (go_at_call 31; refine (ruse_calls (HR _ _ (by repeat (first | exact E1 | refine Ext.drew ?_ | refine Ext.alloc ?_ _)) e2) hk (by omega) (keyA (n % 9))).mono ?_; rintro e w4 ⟨rfl, r4, e4⟩)))
  all_goals
    go_wp2
    go_ret
    exact ⟨rfl, ActOK.mk ⟨hm, hr, hk, hap, hfl, hgl⟩ (useA_ok hk _).1 (by repeat (first | exact E1 | refine Ext.drew ?_ | refine Ext.alloc ?_ _)) m2 e2 (by repeat (first | exact Ext.refl _ _ | refine Ext.drew ?_ | refine Ext.alloc ?_ _)) r4 e4 (by repeat (first | exact Ext.refl _ _ | refine Ext.drew ?_ | refine Ext.alloc ?_ _))⟩

set_option maxRecDepth 100000 in
set_option maxHeartbeats 4000000 in
theorem do_pin {w : World} {bm br : Nat} {B : Int} {xs : List Kept} {F G : Nat → Prop} (h : Both w bm br B xs F G) (hl : xs.length ≤ 900) (wh n s : Int) (hw : wh % 6 = 4) (hw0 : 0 ≤ wh) (hw2 : wh ≤ 255) (n0 : 0 ≤ n) (n1 : n ≤ 255) (s0 : -9223372036854775808 ≤ s) (s1 : s ≤ 9223372036854775807) :
    Calls Try.prog 23 #[ptr bm, ptr br, .agg #[.int .u8 wh, .int .u8 n, .int .i64 s]] w fun e w' => e = .returned (.bool true) ∧ ActOK w bm br B F G ((pinA xs (keyA (n % 9)) (s.tmod 2 == 0)).2) w' := by
  obtain ⟨hm, hr, hk, hap, hfl, hgl⟩ := h
  have HM : ∀ w', Ext Nope w w' → MemIs w' bm B xs F := fun w' e => hm.ext e (fun _ _ z => z)
  have HR : ∀ w1 w2, Ext Nope w w1 → Ext F w1 w2 → RefIs w2 br B xs G := fun w1 w2 e1 e2 => (hr.ext e1 (fun _ _ z => z)).ext e2 (fun b hb hf => hap b hf hb)
  have n9 : 0 ≤ n % 9 := by omega
  have n10 : n % 9 ≤ 1000 := by omega
  go_enter Try.func23, Try.ntmps23
  go_wp2_with fail
  refine (key_calls (n % 9) _ n9 n10).mono ?_
  rintro e w1 ⟨rfl, hE⟩
  have hbox : w1.heap[w.heap.size]? = some (.cells #[.int .u8 wh, .int .u8 n, .int .i64 s] 37 (0, 0)) := (hE.block _ (by simp) (fun z => z)).trans (heap_alloc_new w _)
  have E1 : Ext Nope w w1 := ext0 ((Ext.refl _ _).alloc _) hE
  have B0 := cell_of_blk hbox 0
  have B1 := cell_of_blk hbox 1
  have B2 := cell_of_blk hbox 2
  simp only [List.getElem?_toArray, List.getElem?_cons_zero, List.getElem?_cons_succ] at B0 B1 B2
  have hbl := lt_of_heap hbox
  have hnF : ¬ F w.heap.size := fun z => by have := hfl _ z; omega
  have hnG : ¬ G w.heap.size := fun z => by have := hgl _ z; omega
  have hnF1 : ¬ F w1.heap.size := fun z => by have := hfl _ z; omega
  have hnG1 : ¬ G w1.heap.size := fun z => by have := hgl _ z; omega
  have t3 : (wh % 6 == 3) = false := by simp [hw]
  have t4 : (wh % 6 == 4) = true := by simp [hw]
  clear hw
  go_wp2
  go_region_held3 (fun w' => w'.cell? ⟨w1.heap.size, 0, none⟩ = some (.int .i64 (keyA (n % 9)).f) ∧ w'.cell? ⟨w1.heap.size, 1, none⟩ = some (.int .i64 (keyA (n % 9)).k) ∧ w'.cell? ⟨w1.heap.size, 2, none⟩ = some (.int .i64 (keyA (n % 9)).n) ∧ w'.cell? ⟨w1.heap.size, 3, none⟩ = some (.int .i64 (keyA (n % 9)).r) ∧ w'.cell? ⟨w.heap.size, 2, none⟩ = some (.int .i64 s)) (first | go_keep | exact keepC e4 hnG1 hnG (by have := e2.size; simp at this ⊢; omega) (by have := e2.size; simp at this ⊢; omega) (by first | assumption | go_keep) | exact keepC e2 hnF1 hnF (by simp) (by simp; omega) (by first | assumption | go_keep))
    ((first
      | (go_at_call 15; refine (mpin_calls (HM _ (by repeat (first | exact E1 | refine Ext.drew ?_ | refine Ext.alloc ?_ _))) hk (keyA (n % 9)) _).mono ?_; rintro e w2 ⟨rfl, m2, e2⟩)
      | (go_at_call 32; refine (rpin_calls (HR _ _ (by repeat (first | exact E1 | refine Ext.drew ?_ | refine Ext.alloc ?_ _)) e2) hk (by omega) (keyA (n % 9)) _).mono ?_; rintro e w4 ⟨rfl, r4, e4⟩)))
  all_goals
    go_wp2
    go_ret
    exact ⟨rfl, ActOK.mk ⟨hm, hr, hk, hap, hfl, hgl⟩ (pinA_ok hk _ _).1 (by repeat (first | exact E1 | refine Ext.drew ?_ | refine Ext.alloc ?_ _)) m2 e2 (by repeat (first | exact Ext.refl _ _ | refine Ext.drew ?_ | refine Ext.alloc ?_ _)) r4 e4 (by repeat (first | exact Ext.refl _ _ | refine Ext.drew ?_ | refine Ext.alloc ?_ _))⟩

set_option maxRecDepth 100000 in
set_option maxHeartbeats 4000000 in
theorem do_drop {w : World} {bm br : Nat} {B : Int} {xs : List Kept} {F G : Nat → Prop} (h : Both w bm br B xs F G) (hl : xs.length ≤ 900) (wh n s : Int) (hw : wh % 6 = 5) (hw0 : 0 ≤ wh) (hw2 : wh ≤ 255) (n0 : 0 ≤ n) (n1 : n ≤ 255) (s0 : -9223372036854775808 ≤ s) (s1 : s ≤ 9223372036854775807) :
    Calls Try.prog 23 #[ptr bm, ptr br, .agg #[.int .u8 wh, .int .u8 n, .int .i64 s]] w fun e w' => e = .returned (.bool true) ∧ ActOK w bm br B F G ((dropA xs (keyA (n % 9))).2) w' := by
  obtain ⟨hm, hr, hk, hap, hfl, hgl⟩ := h
  have HM : ∀ w', Ext Nope w w' → MemIs w' bm B xs F := fun w' e => hm.ext e (fun _ _ z => z)
  have HR : ∀ w1 w2, Ext Nope w w1 → Ext F w1 w2 → RefIs w2 br B xs G := fun w1 w2 e1 e2 => (hr.ext e1 (fun _ _ z => z)).ext e2 (fun b hb hf => hap b hf hb)
  have n9 : 0 ≤ n % 9 := by omega
  have n10 : n % 9 ≤ 1000 := by omega
  go_enter Try.func23, Try.ntmps23
  go_wp2_with fail
  refine (key_calls (n % 9) _ n9 n10).mono ?_
  rintro e w1 ⟨rfl, hE⟩
  have hbox : w1.heap[w.heap.size]? = some (.cells #[.int .u8 wh, .int .u8 n, .int .i64 s] 37 (0, 0)) := (hE.block _ (by simp) (fun z => z)).trans (heap_alloc_new w _)
  have E1 : Ext Nope w w1 := ext0 ((Ext.refl _ _).alloc _) hE
  have B0 := cell_of_blk hbox 0
  have B1 := cell_of_blk hbox 1
  have B2 := cell_of_blk hbox 2
  simp only [List.getElem?_toArray, List.getElem?_cons_zero, List.getElem?_cons_succ] at B0 B1 B2
  have hbl := lt_of_heap hbox
  have hnF : ¬ F w.heap.size := fun z => by have := hfl _ z; omega
  have hnG : ¬ G w.heap.size := fun z => by have := hgl _ z; omega
  have hnF1 : ¬ F w1.heap.size := fun z => by have := hfl _ z; omega
  have hnG1 : ¬ G w1.heap.size := fun z => by have := hgl _ z; omega
  have t3 : (wh % 6 == 3) = false := by simp [hw]
  have t4 : (wh % 6 == 4) = false := by simp [hw]
  have t5 : (wh % 6 == 5) = true := by simp [hw]
  clear hw
  go_wp2
  go_region_held3 (fun w' => w'.cell? ⟨w1.heap.size, 0, none⟩ = some (.int .i64 (keyA (n % 9)).f) ∧ w'.cell? ⟨w1.heap.size, 1, none⟩ = some (.int .i64 (keyA (n % 9)).k) ∧ w'.cell? ⟨w1.heap.size, 2, none⟩ = some (.int .i64 (keyA (n % 9)).n) ∧ w'.cell? ⟨w1.heap.size, 3, none⟩ = some (.int .i64 (keyA (n % 9)).r) ∧ w'.cell? ⟨w.heap.size, 2, none⟩ = some (.int .i64 s)) (first | go_keep | exact keepC e4 hnG1 hnG (by have := e2.size; simp at this ⊢; omega) (by have := e2.size; simp at this ⊢; omega) (by first | assumption | go_keep) | exact keepC e2 hnF1 hnF (by simp) (by simp; omega) (by first | assumption | go_keep))
    ((first
      | (go_at_call 16; refine (mdrop_calls (HM _ (by repeat (first | exact E1 | refine Ext.drew ?_ | refine Ext.alloc ?_ _))) hk (keyA (n % 9))).mono ?_; rintro e w2 ⟨rfl, m2, e2⟩)
      | (go_at_call 33; refine (rdrop_calls (HR _ _ (by repeat (first | exact E1 | refine Ext.drew ?_ | refine Ext.alloc ?_ _)) e2) hk (by omega) (keyA (n % 9))).mono ?_; rintro e w4 ⟨rfl, r4, e4⟩)))
  all_goals
    go_wp2
    go_ret
    exact ⟨rfl, ActOK.mk ⟨hm, hr, hk, hap, hfl, hgl⟩ (dropA_ok hk _).1 (by repeat (first | exact E1 | refine Ext.drew ?_ | refine Ext.alloc ?_ _)) m2 e2 (by repeat (first | exact Ext.refl _ _ | refine Ext.drew ?_ | refine Ext.alloc ?_ _)) r4 e4 (by repeat (first | exact Ext.refl _ _ | refine Ext.drew ?_ | refine Ext.alloc ?_ _))⟩

theorem same_calls {w : World} {p q : Value} {bp bq : Nat} {ks : List Own} (hp : KeysAt w bp p ks) (hq : KeysAt w bq q ks) (hk : ks.length ≤ 1000) :
    Calls Try.prog 20 #[p, q] w fun e w' => e = .returned (.bool true) ∧ Ext Nope w w' := by
  refine (same_walk hp hq (by omega) (by omega)).mono ?_
  rintro e w' ⟨rfl, h⟩
  exact ⟨by simp, h⟩
theorem key_box {w w' : World} {b : Nat} {o : Own} (h : w.heap[b]? = some (.cells (ownCells o) 34 (0, 0))) (e : w'.heap[b]? = w.heap[b]?) :
    w'.cell? ⟨b, 0, none⟩ = some (.int .i64 o.f) ∧ w'.cell? ⟨b, 1, none⟩ = some (.int .i64 o.k) ∧ w'.cell? ⟨b, 2, none⟩ = some (.int .i64 o.n) ∧ w'.cell? ⟨b, 3, none⟩ = some (.int .i64 o.r) :=
  ⟨cell_of_blk (e.trans h) 0, cell_of_blk (e.trans h) 1, cell_of_blk (e.trans h) 2, cell_of_blk (e.trans h) 3⟩

set_option maxRecDepth 100000 in
set_option maxHeartbeats 4000000 in
theorem do_put {w : World} {bm br : Nat} {B : Int} {xs : List Kept} {F G : Nat → Prop} (h : Both w bm br B xs F G) (hl : xs.length ≤ 900) (wh n s : Int) (hw : wh % 6 < 3) (hw0 : 0 ≤ wh) (hw2 : wh ≤ 255) (n0 : 0 ≤ n) (n1 : n ≤ 255) (s0 : -9223372036854775808 ≤ s) (s1 : s ≤ 9223372036854775807) :
    Calls Try.prog 23 #[ptr bm, ptr br, .agg #[.int .u8 wh, .int .u8 n, .int .i64 s]] w fun e w' => e = .returned (.bool true) ∧ ActOK w bm br B F G ((putA B xs (keyA (n % 9)) s).2.2) w' := by
  obtain ⟨hm, hr, hk, hap, hfl, hgl⟩ := h
  have HM : ∀ w', Ext Nope w w' → MemIs w' bm B xs F := fun w' e => hm.ext e (fun _ _ z => z)
  have HR : ∀ w1 w2, Ext Nope w w1 → Ext F w1 w2 → RefIs w2 br B xs G := fun w1 w2 e1 e2 => (hr.ext e1 (fun _ _ z => z)).ext e2 (fun b hb hf => hap b hf hb)
  have n9 : 0 ≤ n % 9 := by omega
  have n10 : n % 9 ≤ 1000 := by omega
  have hP : ∀ w', Ext Nope w w' → Calls Try.prog 17 #[ptr bm, (keyA (n % 9)).val, .int .i64 s] w' fun e w'' => ∃ v, e = .returned (.tuple #[v, .int .i64 (putA B xs (keyA (n % 9)) s).2.1]) ∧ KeysAt w'' w'.heap.size v (putA B xs (keyA (n % 9)) s).1 ∧ MemIs w'' bm B (putA B xs (keyA (n % 9)) s).2.2 (Grow F w' w'') ∧ Ext F w' w'' := fun w' e => mput_calls (HM w' e) hk (by omega) (keyA (n % 9)) s
  have hQ : ∀ w1 w2, Ext Nope w w1 → Ext F w1 w2 → Calls Try.prog 34 #[ptr br, (keyA (n % 9)).val, .int .i64 s] w2 fun e w' => ∃ v, e = .returned (.tuple #[v, .int .i64 (putA B xs (keyA (n % 9)) s).2.1]) ∧ KeysAt w' w2.heap.size v (putA B xs (keyA (n % 9)) s).1 ∧ RefIs w' br B (putA B xs (keyA (n % 9)) s).2.2 (Grow G w2 w') ∧ Ext G w2 w' := fun w1 w2 e1 e2 => rput_calls (HR w1 w2 e1 e2) hk (by omega) (keyA (n % 9)) s
  have hok := putA_ok hk (keyA (n % 9)) s
  have hout := putA_out B xs (keyA (n % 9)) s
  clear HM HR
  generalize putA B xs (keyA (n % 9)) s = P at *
  go_enter Try.func23, Try.ntmps23
  go_wp2_with fail
  refine (key_calls (n % 9) _ n9 n10).mono ?_
  rintro e w1 ⟨rfl, hE⟩
  have hbox : w1.heap[w.heap.size]? = some (.cells #[.int .u8 wh, .int .u8 n, .int .i64 s] 37 (0, 0)) := (hE.block _ (by simp) (fun z => z)).trans (heap_alloc_new w _)
  have E1 : Ext Nope w w1 := ext0 ((Ext.refl _ _).alloc _) hE
  have B0 := cell_of_blk hbox 0
  have B1 := cell_of_blk hbox 1
  have B2 := cell_of_blk hbox 2
  simp only [List.getElem?_toArray, List.getElem?_cons_zero, List.getElem?_cons_succ] at B0 B1 B2
  have hbl := lt_of_heap hbox
  have hnF : ¬ F w.heap.size := fun z => by have := hfl _ z; omega
  have hnG : ¬ G w.heap.size := fun z => by have := hgl _ z; omega
  have hnF1 : ¬ F w1.heap.size := fun z => by have := hfl _ z; omega
  have hnG1 : ¬ G w1.heap.size := fun z => by have := hgl _ z; omega
  have t3 : (wh % 6 == 3) = false := by simp; omega
  have t4 : (wh % 6 == 4) = false := by simp; omega
  have t5 : (wh % 6 == 5) = false := by simp; omega
  clear hw
  have K0 : (w1.alloc (.cells (ownCells (keyA (n % 9))) 34 (0, 0))).heap[w1.heap.size]? = some (.cells (ownCells (keyA (n % 9))) 34 (0, 0)) := heap_alloc_new _ _
  have hb0 : (w1.alloc (.cells (ownCells (keyA (n % 9))) 34 (0, 0))).heap[w.heap.size]? = some (.cells #[.int .u8 wh, .int .u8 n, .int .i64 s] 37 (0, 0)) := (heap_alloc_old _ _ _ hbl).trans hbox
  have E2 : Ext Nope w (w1.alloc (.cells (ownCells (keyA (n % 9))) 34 (0, 0))) := E1.alloc _
  have hg2 : ∀ k, (w1.alloc (.cells (ownCells (keyA (n % 9))) 34 (0, 0))).heap.size ≤ k → ¬ G k := fun k hk1 hk2 => by have := hgl k hk2; simp at hk1; omega
  have hF1 : w1.heap.size < (w1.alloc (.cells (ownCells (keyA (n % 9))) 34 (0, 0))).heap.size := by simp
  go_wp2_with fail
  generalize w1.alloc (.cells (ownCells (keyA (n % 9))) 34 (0, 0)) = wa at *
  refine (hP _ E2).mono ?_
  rintro e w2 ⟨v, rfl, hk2, m2, e2⟩
  clear hP B0 B1 B2
  obtain ⟨c0, c1, c2, c3⟩ := key_box K0 (e2.block _ hF1 hnF1)
  have d2 := cell_of_blk ((e2.block _ (by omega) hnF).trans hb0) 2
  simp only [List.getElem?_toArray, List.getElem?_cons_zero, List.getElem?_cons_succ] at d2
  go_wp2_with fail
  refine (hQ _ w2 E2 e2).mono ?_
  rintro e w4 ⟨u, rfl, hk4, r4, e4⟩
  clear hQ d2 c0 c1 c2 c3
  have hk2' := hk2.ext e4 hg2
  go_wp2_with fail
  refine (same_calls hk2' hk4 (by omega)).mono ?_
  rintro e w5 ⟨rfl, e5⟩
  go_wp2
  go_ret
  exact ⟨rfl, ActOK.mk ⟨hm, hr, hk, hap, hfl, hgl⟩ hok E2 m2 e2 (Ext.refl _ _) r4 e4 e5⟩

end Go.Proofs.Ytkloaadaicklfaa
