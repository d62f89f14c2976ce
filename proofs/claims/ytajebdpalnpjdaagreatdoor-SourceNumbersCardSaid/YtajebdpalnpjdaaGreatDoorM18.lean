/-
  The reference's Same of two fonts that are nothing; the law's 'fails'.
  The law's 'fails'.
  The rules of a program's instructions: a map of which two entries are met.
-/
import Derived.Test.YtajebdpalnpjdaaGreatDoorM17
import Derived.Test.YtajebdpalnpjdaaGreatDoorM02
import Derived.Maps.Own
import Derived.Maps.OwnSet
import Derived.Maps.Keyed
namespace Go.Proofs.YtajebdpalnpjdaaGreatDoor
open Go.RowKit
attribute [local go_sem] alloc_drewN setCell_drewN

abbrev fontCells' : Array Value := #[.string ⟨#[]⟩, .int .i64 0, .slice none 0 0, .slice none 0 0, .int .i64 0, .slice none 0 0, .slice none 0 0, .slice none 0 0, .string ⟨#[]⟩, .slice none 0 0, .slice none 0 0]
theorem font0_cells {w : World} {b : Nat} (h : w.heap[b]? = some (.cells fontCells' 36 (0, 0))) : w.cell? ⟨b, 0, none⟩ = some (.string ⟨#[]⟩) ∧ w.cell? ⟨b, 1, none⟩ = some (.int .i64 0) ∧ w.cell? ⟨b, 2, none⟩ = some (.slice none 0 0) ∧ w.cell? ⟨b, 3, none⟩ = some (.slice none 0 0) ∧ w.cell? ⟨b, 4, none⟩ = some (.int .i64 0) ∧ w.cell? ⟨b, 5, none⟩ = some (.slice none 0 0) ∧ w.cell? ⟨b, 6, none⟩ = some (.slice none 0 0) ∧ w.cell? ⟨b, 7, none⟩ = some (.slice none 0 0) ∧ w.cell? ⟨b, 8, none⟩ = some (.string ⟨#[]⟩) ∧ w.cell? ⟨b, 9, none⟩ = some (.slice none 0 0) ∧ w.cell? ⟨b, 10, none⟩ = some (.slice none 0 0) := by
  refine ⟨?_, ?_, ?_, ?_, ?_, ?_, ?_, ?_, ?_, ?_, ?_⟩ <;> (rw [show ∀ j, (⟨b, j, none⟩ : Addr) = at_ b j from fun _ => rfl, cell_of_blk h]; rfl)
def F0C (w : World) (b : Nat) : Prop := w.cell? ⟨b, 0, none⟩ = some (.string ⟨#[]⟩) ∧ w.cell? ⟨b, 1, none⟩ = some (.int .i64 0) ∧ w.cell? ⟨b, 2, none⟩ = some (.slice none 0 0) ∧ w.cell? ⟨b, 3, none⟩ = some (.slice none 0 0) ∧ w.cell? ⟨b, 4, none⟩ = some (.int .i64 0) ∧ w.cell? ⟨b, 5, none⟩ = some (.slice none 0 0) ∧ w.cell? ⟨b, 6, none⟩ = some (.slice none 0 0) ∧ w.cell? ⟨b, 7, none⟩ = some (.slice none 0 0) ∧ w.cell? ⟨b, 8, none⟩ = some (.string ⟨#[]⟩) ∧ w.cell? ⟨b, 9, none⟩ = some (.slice none 0 0) ∧ w.cell? ⟨b, 10, none⟩ = some (.slice none 0 0)
set_option maxRecDepth 100000 in
set_option maxHeartbeats 4000000 in
/-- Same of nothing and nothing -/
theorem same_zero (w : World) : Calls Tryz.prog 15 #[.agg fontCells', .agg fontCells'] w fun e w' => e = .returned (.bool true) ∧ Ext Nope w w' := by
  go_enter Tryz.func15, Tryz.ntmps15
  go_upto_region 1 with fail
  have e1 : Ext Nope w ((w.alloc (.cells fontCells' 36)).alloc (.cells fontCells' 36)) := ((Ext.refl Nope w).alloc _).alloc _
  have hy : ((w.alloc (.cells fontCells' 36)).alloc (.cells fontCells' 36)).heap[w.heap.size + 1]? = some (.cells fontCells' 36 (0, 0)) := heap_alloc_at _ _ _ (by simp)
  have hx : ((w.alloc (.cells fontCells' 36)).alloc (.cells fontCells' 36)).heap[w.heap.size]? = some (.cells fontCells' 36 (0, 0)) := (heap_alloc_old _ _ _ (by simp)).trans (heap_alloc_new _ _)
  obtain ⟨X, HX⟩ : ∃ X, Hid (w.heap.size = X) := ⟨_, rfl⟩
  rw [HX.out] at hx hy ⊢
  generalize (w.alloc (.cells fontCells' 36)).alloc (.cells fontCells' 36) = w1 at *
  have H1 := toHid (show _ ∧ _ ∧ _ from ⟨e1, hx, hy⟩)
  have SK : Hid (∀ w', Ext Nope w1 w' → F0C w' X ∧ F0C w' (X + 1)) := fun w' e => ⟨font0_cells ((e.block _ (lt_of_heap H1.out.2.1) (fun z => z)).trans H1.out.2.1), font0_cells ((e.block _ (lt_of_heap H1.out.2.2) (fun z => z)).trans H1.out.2.2)⟩
  clear e1 hx hy
  unfold F0C at SK
  go_cut [32] (fun s wx => s = .bool false ∧ Ext Nope w1 wx)
  case first =>
    go_region_held3 (fun w' => (w'.cell? ⟨X, 0, none⟩ = some (.string ⟨#[]⟩) ∧ w'.cell? ⟨X, 1, none⟩ = some (.int .i64 0) ∧ w'.cell? ⟨X, 2, none⟩ = some (.slice none 0 0) ∧ w'.cell? ⟨X, 3, none⟩ = some (.slice none 0 0) ∧ w'.cell? ⟨X, 4, none⟩ = some (.int .i64 0) ∧ w'.cell? ⟨X, 5, none⟩ = some (.slice none 0 0) ∧ w'.cell? ⟨X, 6, none⟩ = some (.slice none 0 0) ∧ w'.cell? ⟨X, 7, none⟩ = some (.slice none 0 0) ∧ w'.cell? ⟨X, 8, none⟩ = some (.string ⟨#[]⟩) ∧ w'.cell? ⟨X, 9, none⟩ = some (.slice none 0 0) ∧ w'.cell? ⟨X, 10, none⟩ = some (.slice none 0 0)) ∧ (w'.cell? ⟨X + 1, 0, none⟩ = some (.string ⟨#[]⟩) ∧ w'.cell? ⟨X + 1, 1, none⟩ = some (.int .i64 0) ∧ w'.cell? ⟨X + 1, 2, none⟩ = some (.slice none 0 0) ∧ w'.cell? ⟨X + 1, 3, none⟩ = some (.slice none 0 0) ∧ w'.cell? ⟨X + 1, 4, none⟩ = some (.int .i64 0) ∧ w'.cell? ⟨X + 1, 5, none⟩ = some (.slice none 0 0) ∧ w'.cell? ⟨X + 1, 6, none⟩ = some (.slice none 0 0) ∧ w'.cell? ⟨X + 1, 7, none⟩ = some (.slice none 0 0) ∧ w'.cell? ⟨X + 1, 8, none⟩ = some (.string ⟨#[]⟩) ∧ w'.cell? ⟨X + 1, 9, none⟩ = some (.slice none 0 0) ∧ w'.cell? ⟨X + 1, 10, none⟩ = some (.slice none 0 0)))
      ((refine SK.out _ ?_; (repeat (first | exact Ext.refl _ _ | refine Ext.drew ?_ | refine Ext.alloc ?_ _ | refine ext0 ?_ e6 | refine ext0 ?_ e5))))
      (first
        | (go_at_call 48; refine (encode_zero _).mono ?_; rintro e w6 ⟨rfl, e6'⟩; have e6 := ext0 e5 e6'; clear e6')
        | (go_at_call 48; refine (encode_zero _).mono ?_; rintro e w5 ⟨rfl, e5⟩))
    all_goals
      go_wp2_with fail
      go_meet
      exact ⟨rfl, by repeat (first | exact Ext.refl _ _ | refine Ext.drew ?_ | refine Ext.alloc ?_ _ | refine ext0 ?_ e6 | refine ext0 ?_ e5)⟩
  case rest =>
    obtain ⟨rfl, e7⟩ := hcut
    rename World => wc
    obtain ⟨⟨c0, c1, c2, c3, c4, c5, c6, c7, c8, c9, c10⟩, _⟩ := SK.out _ e7
    have H7 := toHid (ext0 H1.out.1 e7)
    clear e7 SK
    go_wp2_with fail
    go_loopw [5] (fun i wr => i = .int .i64 0 ∧ wr = wc) (fun _ _ => 0)
    case atStart => exact ⟨rfl, rfl⟩
    case round =>
      obtain ⟨rfl, hw⟩ := hrel
      have hw := hw.symm
      subst hw
      go_wp2_with fail
      go_loopw [6] (fun i wr => i = .int .i64 0 ∧ wr = wc) (fun _ _ => 0)
      case atStart => exact ⟨rfl, rfl⟩
      case round =>
        obtain ⟨rfl, hw⟩ := hrel
        have hw := hw.symm
        subst hw
        go_wp2_with fail
        go_ret
        exact ⟨rfl, H7.out⟩
end Go.Proofs.YtajebdpalnpjdaaGreatDoor
namespace Go.Proofs.YtajebdpalnpjdaaGreatDoor
open Go.RowKit
attribute [local go_sem] alloc_drewN setCell_drewN

set_option maxRecDepth 100000 in
set_option maxHeartbeats 4000000 in
/-- fails -/
theorem fails_calls {w : World} {s t : ByteArray} {n err : Int} (hs : s.size ≤ 100000) (ht : semi s = t)
    (hP : ∀ W, Ext Nope w W → Calls Tryz.prog 6 #[.string t] W fun e w' => e = .returned (.tuple #[.agg fontCells', .int .i64 n, .int .i64 err]) ∧ Ext Nope W w') :
    Calls Tryz.prog 9 #[.string s, .int .i64 n, .int .i64 err] w fun e w' => e = .returned (.bool true) ∧ Ext Nope w w' := by
  have HL := toHid (lines_calls (w := w) s hs)
  rw [ht] at HL
  have HP := toHid hP
  clear hP ht
  go_enter Tryz.func9, Tryz.ntmps9
  go_wp2_with fail
  refine HL.out.mono ?_
  rintro e w2 ⟨rfl, e2⟩
  have H2 := toHid e2
  clear e2 HL
  go_wp2_with fail
  refine (HP.out _ H2.out).mono ?_
  rintro e w3 ⟨rfl, e3⟩
  have H3 := toHid (ext0 H2.out e3)
  clear e3 HP
  go_wp2_with fail
  refine (same_zero _).mono ?_
  rintro e w4 ⟨rfl, e4⟩
  have H4 := toHid (ext0 (H3.out.alloc _) e4)
  clear e4
  go_wp2_with fail
  go_ret
  exact ⟨rfl, H4.out⟩
end Go.Proofs.YtajebdpalnpjdaaGreatDoor
namespace Go.Proofs.YtajebdpalnpjdaaGreatDoor
open Go.RowKit Go.Maps
attribute [local go_sem] alloc_drewN setCell_drewN

set_option maxHeartbeats 1000000 in
/-- bound.two -/
theorem mk_two (f : FuncId) (w : World) : Calls Tryz.prog 242 #[.func (.func f) #[] #[]] w fun e w' => e = .returned (.agg #[.int .i64 2, .func (.func 297) #[] #[ptr w.heap.size]]) ∧ w'.heap[w.heap.size]? = some (.cells #[.func (.func f) #[] #[]] 335 (0, 0)) ∧ Ext Nope w w' := by
  have o1 := store_one (P := Tryz.prog) (v := .func (.func 297) #[] #[ptr w.heap.size]) rfl
  go_enter Tryz.func242, Tryz.ntmps242
  go_wp2_with fail
  refine bodyPost_ret (v := .agg #[.int .i64 2, .func (.func 297) #[] #[ptr w.heap.size]]) (by simp [results, Tryz.results242, go_sem]) rfl ⟨rfl, ?_, ((Ext.refl _ _).alloc _).alloc _⟩
  exact (heap_alloc_old _ _ _ (by simp)).trans (heap_alloc_new _ _)
set_option maxHeartbeats 1000000 in
/-- bound.one -/
theorem mk_one (f : FuncId) (w : World) : Calls Tryz.prog 249 #[.func (.func f) #[] #[]] w fun e w' => e = .returned (.agg #[.int .i64 1, .func (.func 300) #[] #[ptr w.heap.size]]) ∧ w'.heap[w.heap.size]? = some (.cells #[.func (.func f) #[] #[]] 205 (0, 0)) ∧ Ext Nope w w' := by
  have o1 := store_one (P := Tryz.prog) (v := .func (.func 300) #[] #[ptr w.heap.size]) rfl
  go_enter Tryz.func249, Tryz.ntmps249
  go_wp2_with fail
  refine bodyPost_ret (v := .agg #[.int .i64 1, .func (.func 300) #[] #[ptr w.heap.size]]) (by simp [results, Tryz.results249, go_sem]) rfl ⟨rfl, ?_, ((Ext.refl _ _).alloc _).alloc _⟩
  exact (heap_alloc_old _ _ _ (by simp)).trans (heap_alloc_new _ _)
set_option maxHeartbeats 1000000 in
/-- bound.get -/
theorem mk_get (f : FuncId) (w : World) : Calls Tryz.prog 255 #[.func (.func f) #[] #[]] w fun e w' => e = .returned (.agg #[.int .i64 0, .func (.func 304) #[] #[ptr w.heap.size]]) ∧ w'.heap[w.heap.size]? = some (.cells #[.func (.func f) #[] #[]] 332 (0, 0)) ∧ Ext Nope w w' := by
  have o1 := store_one (P := Tryz.prog) (v := .func (.func 304) #[] #[ptr w.heap.size]) rfl
  go_enter Tryz.func255, Tryz.ntmps255
  go_wp2_with fail
  refine bodyPost_ret (v := .agg #[.int .i64 0, .func (.func 304) #[] #[ptr w.heap.size]]) (by simp [results, Tryz.results255, go_sem]) rfl ⟨rfl, ?_, ((Ext.refl _ _).alloc _).alloc _⟩
  exact (heap_alloc_old _ _ _ (by simp)).trans (heap_alloc_new _ _)
set_option maxHeartbeats 1000000 in
/-- bound.set -/
theorem mk_set (f : FuncId) (w : World) : Calls Tryz.prog 258 #[.func (.func f) #[] #[]] w fun e w' => e = .returned (.agg #[.int .i64 1, .func (.func 305) #[] #[ptr w.heap.size]]) ∧ w'.heap[w.heap.size]? = some (.cells #[.func (.func f) #[] #[]] 332 (0, 0)) ∧ Ext Nope w w' := by
  have o1 := store_one (P := Tryz.prog) (v := .func (.func 305) #[] #[ptr w.heap.size]) rfl
  go_enter Tryz.func258, Tryz.ntmps258
  go_wp2_with fail
  refine bodyPost_ret (v := .agg #[.int .i64 1, .func (.func 305) #[] #[ptr w.heap.size]]) (by simp [results, Tryz.results258, go_sem]) rfl ⟨rfl, ?_, ((Ext.refl _ _).alloc _).alloc _⟩
  exact (heap_alloc_old _ _ _ (by simp)).trans (heap_alloc_new _ _)
/-- A map's element stands for itself. -/
def RV (v : Value) : Option (DataW Value × List MemPlace) := some (.held v, [])
theorem keyed3 : Keyed Tryz.prog 3 := int_keyed Tryz.underlying3
def RulM (w : World) (b n : Nat) (D : DataW Value) : Prop := w.ownsMap Tryz.prog 3 RV b n D
theorem RulM.ext {w w' : World} {S : Nat → Prop} {b n : Nat} {D : DataW Value} (h : RulM w b n D) (e : Ext S w w') (hs : ¬ S b) : RulM w' b n D := by
  have hlt := World.ownsMap.lt h
  obtain ⟨es, clock, hb, F, hs', hD⟩ := h
  exact ⟨es, clock, (e.block b hlt hs).trans hb, F, hs', hD⟩
theorem wf_key {k : Int} (h0 : 0 ≤ k) (h1 : k ≤ 1000) : (Lit.int .i64 k).wf = true := WalkArith.wf_i64 (by omega)
theorem RulM.put {w : World} {b n : Nat} {D : DataW Value} (h : RulM w b n D) (hn : n ≤ 1000) (k : Int) (h0 : 0 ≤ k) (h1 : k ≤ 1000) (v : Value) :
    ∃ w', (Instr.mapUpdate 272 (.map (some b)) (.int .i64 k) v).run Tryz.prog w = .ok () w' ∧ RulM w' b (n + 1) (D.put (.int .i64 k) (.held v)) ∧ Ext (fun i => i = b) w w' := by
  obtain ⟨w', hrun, h2, h3⟩ := World.ownsMap.update h keyed3 Tryz.underlying272 (by unfold maxLen; omega) (keyOf_int_mk Tryz.underlying3 (wf_key h0 h1)) (d := .held v) (ps := []) rfl
  exact ⟨w', hrun, h2, Ext.grown (Ext.refl _ _) h3 (fun k hk _ => by cases hk; rfl)⟩
theorem RulM.at {w : World} {b n : Nat} {D : DataW Value} (h : RulM w b n D) (k : Int) (h0 : 0 ≤ k) (h1 : k ≤ 1000) {v : Value} (hat : ∀ z, D.atKey (.int .i64 k) z = .held v) :
    (Instr.lookup 272 (.map (some b)) (.int .i64 k) false).run Tryz.prog w = .ok v w := by
  obtain ⟨u, ps, hrun, hu⟩ := World.ownsMap.lookup (zd := .held (.agg #[.int .i64 0, .nilFunc])) (zp := []) h keyed3 Tryz.underlying272 (z := .agg #[.int .i64 0, .nilFunc]) (by kernel_rfl) rfl (keyOf_int_mk Tryz.underlying3 (wf_key h0 h1))
  rw [hat] at hu
  have : u = v := by simp [RV] at hu; exact hu.1
  rw [this] at hrun
  exact hrun
/-- The two entries that are met. -/
def RulesAt (w : World) (M : Nat) : Prop := ∃ D fb, RulM w M 22 D ∧ (∀ z, D.atKey (.int .i64 1) z = .held (.agg #[.int .i64 0, .func (.func 237) #[] #[]])) ∧ (∀ z, D.atKey (.int .i64 17) z = .held (.agg #[.int .i64 1, .func (.func 305) #[] #[ptr fb]])) ∧ w.heap[fb]? = some (.cells #[.func (.func 234) #[] #[]] 332 (0, 0))
theorem RulesAt.ext {w w' : World} {M : Nat} {S : Nat → Prop} (h : RulesAt w M) (e : Ext S w w') (hs : ¬ S M) (hs2 : ∀ b c T, S b → w.heap[b]? = some (.cells c T (0, 0)) → T ≠ 332) : RulesAt w' M := by
  obtain ⟨D, fb, h1, h2, h3, h4⟩ := h
  exact ⟨D, fb, h1.ext e hs, h2, h3, (e.block fb (lt_of_heap h4) (fun z => hs2 fb _ _ z h4 rfl)).trans h4⟩
set_option maxRecDepth 100000 in
set_option maxHeartbeats 8000000 in
/-- bound.rules -/
theorem rules_calls (w : World) : Calls Tryz.prog 181 #[] w fun e w' => ∃ M, e = .returned (.map (some M)) ∧ RulesAt w' M ∧ Ext Nope w w' := by
  have hmm := @run_makeMap Tryz.prog
  have h0 : RulM (w.alloc (.map #[] 0)) w.heap.size 0 (.map []) := World.ownsMap_made w Tryz.prog 3 RV
  have e0 : Ext Nope w (w.alloc (.map #[] 0)) := (Ext.refl _ _).alloc _
  have H0 := toHid (show _ ∧ _ from ⟨h0, e0⟩)
  clear h0 e0
  obtain ⟨w1, r1, q1, g1⟩ := H0.out.1.put (by omega) 1 (by omega) (by omega) (.agg #[.int .i64 0, .func (.func 237) #[] #[]])
  have H1 := toHid (show _ ∧ _ from ⟨q1, H0.out.2.trans g1 (fun j hj z => by have z : j = w.heap.size := z; omega)⟩)
  clear q1 g1
  obtain ⟨w2, r2, q2, g2⟩ := H1.out.1.put (by omega) 2 (by omega) (by omega) (.agg #[.int .i64 1, .func (.func 239) #[] #[]])
  have H2 := toHid (show _ ∧ _ from ⟨q2, H1.out.2.trans g2 (fun j hj z => by have z : j = w.heap.size := z; omega)⟩)
  clear q2 g2
  obtain ⟨w3, r3, q3, g3⟩ := H2.out.1.put (by omega) 3 (by omega) (by omega) (.agg #[.int .i64 1, .func (.func 240) #[] #[]])
  have H3 := toHid (show _ ∧ _ from ⟨q3, H2.out.2.trans g3 (fun j hj z => by have z : j = w.heap.size := z; omega)⟩)
  clear q3 g3
  obtain ⟨w4, r4, q4, g4⟩ := H3.out.1.put (by omega) 4 (by omega) (by omega) (.agg #[.int .i64 2, .func (.func 241) #[] #[]])
  have H4 := toHid (show _ ∧ _ from ⟨q4, H3.out.2.trans g4 (fun j hj z => by have z : j = w.heap.size := z; omega)⟩)
  clear q4 g4
  go_enter Tryz.func181, Tryz.ntmps181
  go_wp2_with fail
  refine (mk_two 243 _).mono ?_
  rintro e v5 ⟨rfl, hf5, f5⟩
  obtain ⟨c5, HC5⟩ : ∃ c, Hid (w4.heap.size = c) := ⟨_, rfl⟩
  rw [HC5.out] at hf5 ⊢
  have G5 := toHid (show _ ∧ _ from ⟨H4.out.1.ext f5 (fun z => z), ext0 H4.out.2 f5⟩)
  clear f5 hf5
  obtain ⟨w5, r5, q5, g5⟩ := G5.out.1.put (by omega) 5 (by omega) (by omega) (.agg #[.int .i64 2, .func (.func 297) #[] #[ptr c5]])
  have H5 := toHid (show _ ∧ _ from ⟨q5, G5.out.2.trans g5 (fun j hj z => by have z : j = w.heap.size := z; omega)⟩)
  clear q5 g5
  go_wp2_with fail
  refine (mk_two 244 _).mono ?_
  rintro e v6 ⟨rfl, hf6, f6⟩
  obtain ⟨c6, HC6⟩ : ∃ c, Hid (w5.heap.size = c) := ⟨_, rfl⟩
  rw [HC6.out] at hf6 ⊢
  have G6 := toHid (show _ ∧ _ from ⟨H5.out.1.ext f6 (fun z => z), ext0 H5.out.2 f6⟩)
  clear f6 hf6
  obtain ⟨w6, r6, q6, g6⟩ := G6.out.1.put (by omega) 6 (by omega) (by omega) (.agg #[.int .i64 2, .func (.func 297) #[] #[ptr c6]])
  have H6 := toHid (show _ ∧ _ from ⟨q6, G6.out.2.trans g6 (fun j hj z => by have z : j = w.heap.size := z; omega)⟩)
  clear q6 g6
  go_wp2_with fail
  refine (mk_two 245 _).mono ?_
  rintro e v7 ⟨rfl, hf7, f7⟩
  obtain ⟨c7, HC7⟩ : ∃ c, Hid (w6.heap.size = c) := ⟨_, rfl⟩
  rw [HC7.out] at hf7 ⊢
  have G7 := toHid (show _ ∧ _ from ⟨H6.out.1.ext f7 (fun z => z), ext0 H6.out.2 f7⟩)
  clear f7 hf7
  obtain ⟨w7, r7, q7, g7⟩ := G7.out.1.put (by omega) 7 (by omega) (by omega) (.agg #[.int .i64 2, .func (.func 297) #[] #[ptr c7]])
  have H7 := toHid (show _ ∧ _ from ⟨q7, G7.out.2.trans g7 (fun j hj z => by have z : j = w.heap.size := z; omega)⟩)
  clear q7 g7
  go_wp2_with fail
  refine (mk_two 247 _).mono ?_
  rintro e v8 ⟨rfl, hf8, f8⟩
  obtain ⟨c8, HC8⟩ : ∃ c, Hid (w7.heap.size = c) := ⟨_, rfl⟩
  rw [HC8.out] at hf8 ⊢
  have G8 := toHid (show _ ∧ _ from ⟨H7.out.1.ext f8 (fun z => z), ext0 H7.out.2 f8⟩)
  clear f8 hf8
  obtain ⟨w8, r8, q8, g8⟩ := G8.out.1.put (by omega) 9 (by omega) (by omega) (.agg #[.int .i64 2, .func (.func 297) #[] #[ptr c8]])
  have H8 := toHid (show _ ∧ _ from ⟨q8, G8.out.2.trans g8 (fun j hj z => by have z : j = w.heap.size := z; omega)⟩)
  clear q8 g8
  go_wp2_with fail
  refine (mk_two 248 _).mono ?_
  rintro e v9 ⟨rfl, hf9, f9⟩
  obtain ⟨c9, HC9⟩ : ∃ c, Hid (w8.heap.size = c) := ⟨_, rfl⟩
  rw [HC9.out] at hf9 ⊢
  have G9 := toHid (show _ ∧ _ from ⟨H8.out.1.ext f9 (fun z => z), ext0 H8.out.2 f9⟩)
  clear f9 hf9
  obtain ⟨w9, r9, q9, g9⟩ := G9.out.1.put (by omega) 10 (by omega) (by omega) (.agg #[.int .i64 2, .func (.func 297) #[] #[ptr c9]])
  have H9 := toHid (show _ ∧ _ from ⟨q9, G9.out.2.trans g9 (fun j hj z => by have z : j = w.heap.size := z; omega)⟩)
  clear q9 g9
  go_wp2_with fail
  refine (mk_one 250 _).mono ?_
  rintro e v10 ⟨rfl, hf10, f10⟩
  obtain ⟨c10, HC10⟩ : ∃ c, Hid (w9.heap.size = c) := ⟨_, rfl⟩
  rw [HC10.out] at hf10 ⊢
  have G10 := toHid (show _ ∧ _ from ⟨H9.out.1.ext f10 (fun z => z), ext0 H9.out.2 f10⟩)
  clear f10 hf10
  obtain ⟨w10, r10, q10, g10⟩ := G10.out.1.put (by omega) 8 (by omega) (by omega) (.agg #[.int .i64 1, .func (.func 300) #[] #[ptr c10]])
  have H10 := toHid (show _ ∧ _ from ⟨q10, G10.out.2.trans g10 (fun j hj z => by have z : j = w.heap.size := z; omega)⟩)
  clear q10 g10
  go_wp2_with fail
  refine (mk_one 251 _).mono ?_
  rintro e v11 ⟨rfl, hf11, f11⟩
  obtain ⟨c11, HC11⟩ : ∃ c, Hid (w10.heap.size = c) := ⟨_, rfl⟩
  rw [HC11.out] at hf11 ⊢
  have G11 := toHid (show _ ∧ _ from ⟨H10.out.1.ext f11 (fun z => z), ext0 H10.out.2 f11⟩)
  clear f11 hf11
  obtain ⟨w11, r11, q11, g11⟩ := G11.out.1.put (by omega) 12 (by omega) (by omega) (.agg #[.int .i64 1, .func (.func 300) #[] #[ptr c11]])
  have H11 := toHid (show _ ∧ _ from ⟨q11, G11.out.2.trans g11 (fun j hj z => by have z : j = w.heap.size := z; omega)⟩)
  clear q11 g11
  obtain ⟨w12, r12, q12, g12⟩ := H11.out.1.put (by omega) 11 (by omega) (by omega) (.agg #[.int .i64 2, .func (.func 253) #[] #[]])
  have H12 := toHid (show _ ∧ _ from ⟨q12, H11.out.2.trans g12 (fun j hj z => by have z : j = w.heap.size := z; omega)⟩)
  clear q12 g12
  go_wp2_with fail
  refine (mk_get 256 _).mono ?_
  rintro e v13 ⟨rfl, hf13, f13⟩
  obtain ⟨c13, HC13⟩ : ∃ c, Hid (w12.heap.size = c) := ⟨_, rfl⟩
  rw [HC13.out] at hf13 ⊢
  have G13 := toHid (show _ ∧ _ from ⟨H12.out.1.ext f13 (fun z => z), ext0 H12.out.2 f13⟩)
  clear f13 hf13
  obtain ⟨w13, r13, q13, g13⟩ := G13.out.1.put (by omega) 13 (by omega) (by omega) (.agg #[.int .i64 0, .func (.func 304) #[] #[ptr c13]])
  have H13 := toHid (show _ ∧ _ from ⟨q13, G13.out.2.trans g13 (fun j hj z => by have z : j = w.heap.size := z; omega)⟩)
  clear q13 g13
  go_wp2_with fail
  refine (mk_get 257 _).mono ?_
  rintro e v14 ⟨rfl, hf14, f14⟩
  obtain ⟨c14, HC14⟩ : ∃ c, Hid (w13.heap.size = c) := ⟨_, rfl⟩
  rw [HC14.out] at hf14 ⊢
  have G14 := toHid (show _ ∧ _ from ⟨H13.out.1.ext f14 (fun z => z), ext0 H13.out.2 f14⟩)
  clear f14 hf14
  obtain ⟨w14, r14, q14, g14⟩ := G14.out.1.put (by omega) 14 (by omega) (by omega) (.agg #[.int .i64 0, .func (.func 304) #[] #[ptr c14]])
  have H14 := toHid (show _ ∧ _ from ⟨q14, G14.out.2.trans g14 (fun j hj z => by have z : j = w.heap.size := z; omega)⟩)
  clear q14 g14
  go_wp2_with fail
  refine (mk_get 234 _).mono ?_
  rintro e v15 ⟨rfl, hf15, f15⟩
  obtain ⟨c15, HC15⟩ : ∃ c, Hid (w14.heap.size = c) := ⟨_, rfl⟩
  rw [HC15.out] at hf15 ⊢
  have G15 := toHid (show _ ∧ _ from ⟨H14.out.1.ext f15 (fun z => z), ext0 H14.out.2 f15⟩)
  clear f15 hf15
  obtain ⟨w15, r15, q15, g15⟩ := G15.out.1.put (by omega) 15 (by omega) (by omega) (.agg #[.int .i64 0, .func (.func 304) #[] #[ptr c15]])
  have H15 := toHid (show _ ∧ _ from ⟨q15, G15.out.2.trans g15 (fun j hj z => by have z : j = w.heap.size := z; omega)⟩)
  clear q15 g15
  go_wp2_with fail
  refine (mk_get 235 _).mono ?_
  rintro e v16 ⟨rfl, hf16, f16⟩
  obtain ⟨c16, HC16⟩ : ∃ c, Hid (w15.heap.size = c) := ⟨_, rfl⟩
  rw [HC16.out] at hf16 ⊢
  have G16 := toHid (show _ ∧ _ from ⟨H15.out.1.ext f16 (fun z => z), ext0 H15.out.2 f16⟩)
  clear f16 hf16
  obtain ⟨w16, r16, q16, g16⟩ := G16.out.1.put (by omega) 16 (by omega) (by omega) (.agg #[.int .i64 0, .func (.func 304) #[] #[ptr c16]])
  have H16 := toHid (show _ ∧ _ from ⟨q16, G16.out.2.trans g16 (fun j hj z => by have z : j = w.heap.size := z; omega)⟩)
  clear q16 g16
  go_wp2_with fail
  refine (mk_set 234 _).mono ?_
  rintro e v17 ⟨rfl, hf17, f17⟩
  obtain ⟨c17, HC17⟩ : ∃ c, Hid (w16.heap.size = c) := ⟨_, rfl⟩
  rw [HC17.out] at hf17 ⊢
  have G17 := toHid (show _ ∧ _ from ⟨H16.out.1.ext f17 (fun z => z), ext0 H16.out.2 f17⟩)
  have KF17 := toHid hf17
  clear f17 hf17
  obtain ⟨w17, r17, q17, g17⟩ := G17.out.1.put (by omega) 17 (by omega) (by omega) (.agg #[.int .i64 1, .func (.func 305) #[] #[ptr c17]])
  have H17 := toHid (show _ ∧ _ from ⟨q17, G17.out.2.trans g17 (fun j hj z => by have z : j = w.heap.size := z; omega)⟩)
  have KK17 := toHid ((g17.block _ (lt_of_heap KF17.out) (fun z => by have h1 := World.ownsMap.lt G17.out.1; have z : c17 = w.heap.size := z; obtain ⟨es, cl, hb, _⟩ := G17.out.1; rw [← z, KF17.out] at hb; cases hb)).trans KF17.out)
  clear q17 g17
  go_wp2_with fail
  refine (mk_set 235 _).mono ?_
  rintro e v18 ⟨rfl, hf18, f18⟩
  obtain ⟨c18, HC18⟩ : ∃ c, Hid (w17.heap.size = c) := ⟨_, rfl⟩
  rw [HC18.out] at hf18 ⊢
  have G18 := toHid (show _ ∧ _ from ⟨H17.out.1.ext f18 (fun z => z), ext0 H17.out.2 f18⟩)
  have K18 := toHid ((f18.block _ (lt_of_heap KK17.out) (fun z => z)).trans KK17.out)
  clear f18 hf18
  obtain ⟨w18, r18, q18, g18⟩ := G18.out.1.put (by omega) 18 (by omega) (by omega) (.agg #[.int .i64 1, .func (.func 305) #[] #[ptr c18]])
  have H18 := toHid (show _ ∧ _ from ⟨q18, G18.out.2.trans g18 (fun j hj z => by have z : j = w.heap.size := z; omega)⟩)
  have KK18 := toHid ((g18.block _ (lt_of_heap K18.out) (fun z => by have h1 := World.ownsMap.lt G18.out.1; have z : c17 = w.heap.size := z; obtain ⟨es, cl, hb, _⟩ := G18.out.1; rw [← z, K18.out] at hb; cases hb)).trans K18.out)
  clear q18 g18
  go_wp2_with fail
  refine (mk_get 236 _).mono ?_
  rintro e v19 ⟨rfl, hf19, f19⟩
  obtain ⟨c19, HC19⟩ : ∃ c, Hid (w18.heap.size = c) := ⟨_, rfl⟩
  rw [HC19.out] at hf19 ⊢
  have G19 := toHid (show _ ∧ _ from ⟨H18.out.1.ext f19 (fun z => z), ext0 H18.out.2 f19⟩)
  have K19 := toHid ((f19.block _ (lt_of_heap KK18.out) (fun z => z)).trans KK18.out)
  clear f19 hf19
  obtain ⟨w19, r19, q19, g19⟩ := G19.out.1.put (by omega) 21 (by omega) (by omega) (.agg #[.int .i64 0, .func (.func 304) #[] #[ptr c19]])
  have H19 := toHid (show _ ∧ _ from ⟨q19, G19.out.2.trans g19 (fun j hj z => by have z : j = w.heap.size := z; omega)⟩)
  have KK19 := toHid ((g19.block _ (lt_of_heap K19.out) (fun z => by have h1 := World.ownsMap.lt G19.out.1; have z : c17 = w.heap.size := z; obtain ⟨es, cl, hb, _⟩ := G19.out.1; rw [← z, K19.out] at hb; cases hb)).trans K19.out)
  clear q19 g19
  go_wp2_with fail
  refine (mk_set 236 _).mono ?_
  rintro e v20 ⟨rfl, hf20, f20⟩
  obtain ⟨c20, HC20⟩ : ∃ c, Hid (w19.heap.size = c) := ⟨_, rfl⟩
  rw [HC20.out] at hf20 ⊢
  have G20 := toHid (show _ ∧ _ from ⟨H19.out.1.ext f20 (fun z => z), ext0 H19.out.2 f20⟩)
  have K20 := toHid ((f20.block _ (lt_of_heap KK19.out) (fun z => z)).trans KK19.out)
  clear f20 hf20
  obtain ⟨w20, r20, q20, g20⟩ := G20.out.1.put (by omega) 22 (by omega) (by omega) (.agg #[.int .i64 1, .func (.func 305) #[] #[ptr c20]])
  have H20 := toHid (show _ ∧ _ from ⟨q20, G20.out.2.trans g20 (fun j hj z => by have z : j = w.heap.size := z; omega)⟩)
  have KK20 := toHid ((g20.block _ (lt_of_heap K20.out) (fun z => by have h1 := World.ownsMap.lt G20.out.1; have z : c17 = w.heap.size := z; obtain ⟨es, cl, hb, _⟩ := G20.out.1; rw [← z, K20.out] at hb; cases hb)).trans K20.out)
  clear q20 g20
  obtain ⟨w21, r21, q21, g21⟩ := H20.out.1.put (by omega) 19 (by omega) (by omega) (.agg #[.int .i64 1, .func (.func 259) #[] #[]])
  have H21 := toHid (show _ ∧ _ from ⟨q21, H20.out.2.trans g21 (fun j hj z => by have z : j = w.heap.size := z; omega)⟩)
  have KK21 := toHid ((g21.block _ (lt_of_heap KK20.out) (fun z => by have h1 := World.ownsMap.lt H20.out.1; have z : c17 = w.heap.size := z; obtain ⟨es, cl, hb, _⟩ := H20.out.1; rw [← z, KK20.out] at hb; cases hb)).trans KK20.out)
  clear q21 g21
  obtain ⟨w22, r22, q22, g22⟩ := H21.out.1.put (by omega) 20 (by omega) (by omega) (.agg #[.int .i64 2, .func (.func 260) #[] #[]])
  have H22 := toHid (show _ ∧ _ from ⟨q22, H21.out.2.trans g22 (fun j hj z => by have z : j = w.heap.size := z; omega)⟩)
  have KK22 := toHid ((g22.block _ (lt_of_heap KK21.out) (fun z => by have h1 := World.ownsMap.lt H21.out.1; have z : c17 = w.heap.size := z; obtain ⟨es, cl, hb, _⟩ := H21.out.1; rw [← z, KK21.out] at hb; cases hb)).trans KK21.out)
  clear q22 g22
  go_wp2_with fail
  go_ret
  refine ⟨_, rfl, ⟨_, c17, H22.out.1, fun z => ?_, fun z => ?_, KK22.out⟩, H22.out.2⟩
  · rw [atKey_put_other (by simp)]
    rw [atKey_put_other (by simp)]
    rw [atKey_put_other (by simp)]
    rw [atKey_put_other (by simp)]
    rw [atKey_put_other (by simp)]
    rw [atKey_put_other (by simp)]
    rw [atKey_put_other (by simp)]
    rw [atKey_put_other (by simp)]
    rw [atKey_put_other (by simp)]
    rw [atKey_put_other (by simp)]
    rw [atKey_put_other (by simp)]
    rw [atKey_put_other (by simp)]
    rw [atKey_put_other (by simp)]
    rw [atKey_put_other (by simp)]
    rw [atKey_put_other (by simp)]
    rw [atKey_put_other (by simp)]
    rw [atKey_put_other (by simp)]
    rw [atKey_put_other (by simp)]
    rw [atKey_put_other (by simp)]
    rw [atKey_put_other (by simp)]
    rw [atKey_put_other (by simp)]
    exact atKey_put_same (World.ownsMap.isMap H0.out.1) (by first | trivial | simp [WideAt.IsKeyLit]) _ _
  · rw [atKey_put_other (by simp)]
    rw [atKey_put_other (by simp)]
    rw [atKey_put_other (by simp)]
    rw [atKey_put_other (by simp)]
    rw [atKey_put_other (by simp)]
    exact atKey_put_same (World.ownsMap.isMap G17.out.1) (by first | trivial | simp [WideAt.IsKeyLit]) _ _
end Go.Proofs.YtajebdpalnpjdaaGreatDoor
