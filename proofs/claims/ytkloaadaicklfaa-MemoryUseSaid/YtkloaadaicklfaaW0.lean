/-
  The walks of leave and last.
-/
import Derived.Test.YtkloaadaicklfaaH1
import Derived.WalkSpells
import Derived.WalkLawsBesides
import Derived.BigQuiet
import Derived.Deep.QuietTactic
import Derived.BigRegion
namespace Go.Proofs.Ytkloaadaicklfaa
open Go.RowKit

set_option maxHeartbeats 400000 in
theorem leave_walk (be bp bn : Nat) (w : World)
    (hp : w.cell? ⟨be, 6, none⟩ = some (ptr bp)) (hn : w.cell? ⟨be, 7, none⟩ = some (ptr bn))
    (vp : Value) (hpn : w.cell? ⟨bp, 7, none⟩ = some vp) (fpn : w.frozen? ⟨bp, 7, none⟩ = false)
    (vn : Value) (hnp : w.cell? ⟨bn, 6, none⟩ = some vn) (fnp : w.frozen? ⟨bn, 6, none⟩ = false) :
    Calls Try.prog 28 #[ptr be] w fun e w' => e = .returned (.tuple #[]) ∧
      w' = ((w.setCell ⟨bp, 7, none⟩ (ptr bn)).setCell ⟨bn, 6, none⟩ (ptr bp)).drew := by
  go_enter Try.func28, Try.ntmps28
  go_wp2
  go_region
  all_goals (go_end0; exact ⟨rfl, rfl⟩)

set_option maxHeartbeats 400000 in
theorem last_walk (be bh bp : Nat) (w : World)
    (v6 v7 v8 : Value) (he6 : w.cell? ⟨be, 6, none⟩ = some v6) (he7 : w.cell? ⟨be, 7, none⟩ = some v7) (fe6 : w.frozen? ⟨be, 6, none⟩ = false) (fe7 : w.frozen? ⟨be, 7, none⟩ = false)
    (hh6 : w.cell? ⟨bh, 6, none⟩ = some (ptr bp)) (fh6 : w.frozen? ⟨bh, 6, none⟩ = false)
    (hp7 : w.cell? ⟨bp, 7, none⟩ = some v8) (fp7 : w.frozen? ⟨bp, 7, none⟩ = false) (hne : be ≠ bh) (hne2 : be ≠ bp) :
    Calls Try.prog 29 #[ptr be, ptr bh] w fun e w' => e = .returned (.tuple #[]) ∧
      ∃ n, w' = ((((w.setCell ⟨be, 6, none⟩ (ptr bp)).setCell ⟨be, 7, none⟩ (ptr bh)).setCell ⟨bp, 7, none⟩ (ptr be)).setCell ⟨bh, 6, none⟩ (ptr be)).drewN n := by
  go_enter Try.func29, Try.ntmps29
  go_wp2
  go_end0
  exact ⟨rfl, 0, rfl⟩

set_option maxHeartbeats 400000 in
theorem ring_walk (w : World) :
    Calls Try.prog 26 #[] w fun e w' => e = .returned (ptr w.heap.size) ∧
      ∃ n, w' = (w.alloc (.cells #[.int .i64 0, .int .i64 0, .int .i64 0, .int .i64 0, .int .i64 0, .bool false, ptr w.heap.size, ptr w.heap.size] 78)).drewN n := by
  go_enter Try.func26, Try.ntmps26
  go_wp2
  go_ret
  exact ⟨rfl, 0, rfl⟩

set_option maxHeartbeats 400000 in
theorem find_nil (o : Own) (w : World) :
    Calls Try.prog 27 #[.pointer none, o.val] w fun e w' => e = .returned (.tuple #[.pointer none, .bool false]) ∧ w' = w.alloc (.cells #[.int .i64 o.f, .int .i64 o.k, .int .i64 o.n, .int .i64 o.r] 34) := by
  go_enter Try.func27, Try.ntmps27
  go_wp2
  go_ret2
  exact ⟨rfl, rfl⟩

set_option maxHeartbeats 400000 in
theorem find_zero (o : Own) (bm : Nat) (w : World) (hlt : bm < w.heap.size) (hm : w.cell? ⟨bm, 3, none⟩ = some (.pointer none)) :
    Calls Try.prog 27 #[ptr bm, o.val] w fun e w' => e = .returned (.tuple #[.pointer none, .bool false]) ∧ w' = w.alloc (.cells #[.int .i64 o.f, .int .i64 o.k, .int .i64 o.n, .int .i64 o.r] 34) := by
  go_enter Try.func27, Try.ntmps27
  go_wp2
  go_ret2
  exact ⟨rfl, rfl⟩

set_option maxHeartbeats 400000 in
theorem find_some (o : Own) (bm bh bk : Nat) (w : World) (v : Value) (ok : Bool) (hlt : bm < w.heap.size) (hm : w.cell? ⟨bm, 3, none⟩ = some (ptr bh)) (hk : w.cell? ⟨bm, 4, none⟩ = some (.map (some bk)))
    (hl : (Instr.lookup 63 (.map (some bk)) o.val true).run Try.prog (w.alloc (.cells #[.int .i64 o.f, .int .i64 o.k, .int .i64 o.n, .int .i64 o.r] 34)).drew = .ok (.tuple #[v, .bool ok]) (w.alloc (.cells #[.int .i64 o.f, .int .i64 o.k, .int .i64 o.n, .int .i64 o.r] 34)).drew) :
    Calls Try.prog 27 #[ptr bm, o.val] w fun e w' => e = .returned (.tuple #[v, .bool ok]) ∧ w' = (w.alloc (.cells #[.int .i64 o.f, .int .i64 o.k, .int .i64 o.n, .int .i64 o.r] 34)).drew := by
  go_enter Try.func27, Try.ntmps27
  go_wp2
  go_region
  go_wp2
  go_ret2
  exact ⟨rfl, rfl⟩

end Go.Proofs.Ytkloaadaicklfaa
