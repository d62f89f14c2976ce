/-
  The least rectangle around two, and the rectangle of a row.
-/
import Derived.Test.YtmmcadbkmfjcbaaDoorA7
namespace Go.Proofs.YtmmcadbkmfjcbaaDoor
open Go.RowKit
attribute [local go_sem] alloc_drewN setCell_drewN

abbrev twoCells (a b : R) : Array Value := #[.int .i64 a.x, .int .i64 a.y, .int .i64 a.w, .int .i64 a.h, .int .i64 b.x, .int .i64 b.y, .int .i64 b.w, .int .i64 b.h]
section
attribute [local go_sem ↓] run_mn run_mx
set_option maxRecDepth 100000 in
set_option maxHeartbeats 2000000 in
/-- panel.around, of two. -/
theorem around_calls (a b : R) (g : Nat) (w : World) (ha : a.small) (hb : b.small) (hg : w.heap[g]? = some (.cells (twoCells a b) 31 (0, 0))) : Calls Tryd.prog 40 #[.slice (some ⟨g, 0, none⟩) 2 2] w fun e w' => e = .returned (bothR a b).val ∧ Ext Nope w w' := by
  obtain ⟨⟨a1, a2⟩, ⟨a3, a4⟩, ⟨a5, a6⟩, ⟨a7, a8⟩⟩ := ha
  obtain ⟨⟨b1, b2⟩, ⟨b3, b4⟩, ⟨b5, b6⟩, ⟨b7, b8⟩⟩ := hb
  obtain ⟨m1, m2⟩ := mn_bounds (x := a.x) (y := b.x) ⟨a1, a2⟩ ⟨b1, b2⟩
  obtain ⟨m3, m4⟩ := mn_bounds (x := a.y) (y := b.y) ⟨a3, a4⟩ ⟨b3, b4⟩
  obtain ⟨n1, n2⟩ := mx_bounds (x := a.x + a.w) (y := b.x + b.w) (by omega) (by omega)
  obtain ⟨n3, n4⟩ := mx_bounds (x := a.y + a.h) (y := b.y + b.h) (by omega) (by omega)
  have hgl := lt_of_heap hg
  have c0 : w.cell? ⟨g, 0, none⟩ = some (.int .i64 a.x) := cell_of_blk hg 0
  have c1 : w.cell? ⟨g, 1, none⟩ = some (.int .i64 a.y) := cell_of_blk hg 1
  have c2 : w.cell? ⟨g, 2, none⟩ = some (.int .i64 a.w) := cell_of_blk hg 2
  have c3 : w.cell? ⟨g, 3, none⟩ = some (.int .i64 a.h) := cell_of_blk hg 3
  have c4 : w.cell? ⟨g, 4, none⟩ = some (.int .i64 b.x) := cell_of_blk hg 4
  have c5 : w.cell? ⟨g, 5, none⟩ = some (.int .i64 b.y) := cell_of_blk hg 5
  have c6 : w.cell? ⟨g, 6, none⟩ = some (.int .i64 b.w) := cell_of_blk hg 6
  have c7 : w.cell? ⟨g, 7, none⟩ = some (.int .i64 b.h) := cell_of_blk hg 7
  clear hg
  go_enter Tryd.func40, Tryd.ntmps40
  go_wp2
  refine wp_loop_rounds 2 ?_
  rw [rounds_succ]
  go_wp2
  go_quiet (fail)
  go_wp2
  rw [rounds_succ]
  go_wp2
  refine bodyPost_ret (v := (bothR a b).val) ?_ rfl ⟨rfl, ?_⟩
  · clear c0 c1 c2 c3 c4 c5 c6 c7
    simp [results, Tryd.results40, go_sem, bothR]
  · trace_state
    repeat (first | exact Ext.refl _ _ | refine Ext.drewN _ ?_ | refine Ext.alloc ?_ _ | refine Ext.setCell ?_ _ _ (fun z => absurd z (by omega)) _)
end
end Go.Proofs.YtmmcadbkmfjcbaaDoor
