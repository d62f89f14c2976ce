/-
  Put without a memory, and with a size that is out of range.
-/
import Derived.Test.YtkloaadaicklfaaW6
namespace Go.Proofs.Ytkloaadaicklfaa
open Go.RowKit

set_option maxRecDepth 100000 in
set_option maxHeartbeats 1000000 in
theorem put_nil (o : Own) (s : Int) (w : World) : Calls Try.prog 17 #[.pointer none, o.val, .int .i64 s] w fun e w' => e = .returned (.tuple #[.slice none 0 0, .int .i64 1]) ∧ Ext Nope w w' := by
  go_enter Try.func17, Try.ntmps17
  go_wp2
  go_ret2
  exact ⟨rfl, (Ext.refl _ _).alloc _⟩
set_option maxRecDepth 100000 in
set_option maxHeartbeats 1000000 in
theorem put_zero (bm : Nat) (o : Own) (s : Int) (w : World) (hm : ZRep w bm) : Calls Try.prog 17 #[ptr bm, o.val, .int .i64 s] w fun e w' => e = .returned (.tuple #[.slice none 0 0, .int .i64 1]) ∧ Ext Nope w w' := by
  have c3 : w.cell? ⟨bm, 3, none⟩ = some (.pointer none) := by rw [show (⟨bm, 3, none⟩ : Addr) = at_ bm 3 from rfl, cell_of_blk hm]; rfl
  have hlt : bm < w.heap.size := lt_of_heap hm
  clear hm
  go_enter Try.func17, Try.ntmps17
  go_wp2
  go_ret2
  exact ⟨rfl, (Ext.refl _ _).alloc _⟩
set_option maxRecDepth 100000 in
set_option maxHeartbeats 1000000 in
theorem put_arg {w : World} {bm bh bk : Nat} {B : Int} {es : List (Nat × Kept)} (h : MRep w bm bh bk B es) (o : Own) (s : Int) (hs : s < 0 ∨ 65536 < s) : Calls Try.prog 17 #[ptr bm, o.val, .int .i64 s] w fun e w' => e = .returned (.tuple #[.slice none 0 0, .int .i64 1]) ∧ Ext Nope w w' := by
  have c3 : w.cell? ⟨bm, 3, none⟩ = some (ptr bh) := by rw [show (⟨bm, 3, none⟩ : Addr) = at_ bm 3 from rfl, cell_of_blk h.self]; rfl
  have hlt : bm < w.heap.size := lt_of_heap h.self
  clear h
  by_cases h1 : s < 0
  · go_enter Try.func17, Try.ntmps17
    go_wp2
    go_ret2
    exact ⟨rfl, (Ext.refl _ _).alloc _⟩
  · have h2 : 65536 < s := by omega
    have h3 : 0 ≤ s := by omega
    clear hs
    go_enter Try.func17, Try.ntmps17
    go_wp2
    go_ret2
    exact ⟨rfl, (Ext.refl _ _).alloc _⟩


theorem run_update34' {t e : TypeId} (ht : Try.prog.underlying t = some (.map 34 e)) {w : World} {r : Nat} {l : List (Own × Value)} (h : MapAs w r l) (o : Own) (v : Value) :
    ∃ w', (Instr.mapUpdate t (.map (some r)) (.agg #[.int .i64 o.f, .int .i64 o.k, .int .i64 o.n, .int .i64 o.r]) v).run Try.prog w = .ok () w' ∧ MapAs w' r (mput l o v) ∧ (∀ b, b ≠ r → w'.heap[b]? = w.heap[b]?) ∧ w'.os = w.os ∧ w'.tape = w.tape ∧ w'.output = w.output ∧ w'.heap.size = w.heap.size := by
  obtain ⟨ob, h1, h2⟩ := run_update34 ht h o v
  refine ⟨_, h1, h2, fun b hb => ?_, rfl, rfl, rfl, by simp⟩
  show (w.heap.setIfInBounds r ob)[b]? = _
  rw [Array.getElem?_setIfInBounds_ne (fun e => hb e.symm)]

/-- What is given up: the first keys that are not pinned, as long as there is too much. -/
def evict (B : Int) : Int → List (Nat × Kept) → List Own × List (Nat × Kept)
  | _, [] => ([], [])
  | u, p :: r => if B < u then (if p.2.pinned then ((evict B u r).1, p :: (evict B u r).2) else (p.2.key :: (evict B (u - p.2.size) r).1, (evict B (u - p.2.size) r).2)) else ([], p :: r)

def XRow (w : World) (X : Nat) (o : Own) (s : Int) (pin : Bool) : Prop :=
  w.heap[X]? = some (.cells #[.int .i64 o.f, .int .i64 o.k, .int .i64 o.n, .int .i64 o.r, .int .i64 s, .bool pin] 73 (0, 0))

theorem MRep.c0 {w : World} {bm bh bk : Nat} {B : Int} {es : List (Nat × Kept)} (h : MRep w bm bh bk B es) : w.cell? ⟨bm, 0, none⟩ = some (.int .i64 B) := by
  rw [show (⟨bm, 0, none⟩ : Addr) = at_ bm 0 from rfl, cell_of_blk h.self]; rfl
theorem MRep.c1 {w : World} {bm bh bk : Nat} {B : Int} {es : List (Nat × Kept)} (h : MRep w bm bh bk B es) : w.cell? ⟨bm, 1, none⟩ = some (.int .i64 (usedOf (kepts es))) := by
  rw [show (⟨bm, 1, none⟩ : Addr) = at_ bm 1 from rfl, cell_of_blk h.self]; rfl
theorem MRep.c2 {w : World} {bm bh bk : Nat} {B : Int} {es : List (Nat × Kept)} (h : MRep w bm bh bk B es) : w.cell? ⟨bm, 2, none⟩ = some (.int .i64 (pinnedOf (kepts es))) := by
  rw [show (⟨bm, 2, none⟩ : Addr) = at_ bm 2 from rfl, cell_of_blk h.self]; rfl
theorem MRep.c3 {w : World} {bm bh bk : Nat} {B : Int} {es : List (Nat × Kept)} (h : MRep w bm bh bk B es) : w.cell? ⟨bm, 3, none⟩ = some (ptr bh) := by
  rw [show (⟨bm, 3, none⟩ : Addr) = at_ bm 3 from rfl, cell_of_blk h.self]; rfl
theorem MRep.c4 {w : World} {bm bh bk : Nat} {B : Int} {es : List (Nat × Kept)} (h : MRep w bm bh bk B es) : w.cell? ⟨bm, 4, none⟩ = some (.map (some bk)) := by
  rw [show (⟨bm, 4, none⟩ : Addr) = at_ bm 4 from rfl, cell_of_blk h.self]; rfl

theorem XRow.cells {w : World} {X : Nat} {o : Own} {s : Int} {pin : Bool} (h : XRow w X o s pin) :
    w.cell? ⟨X, 0, none⟩ = some (.int .i64 o.f) ∧ w.cell? ⟨X, 1, none⟩ = some (.int .i64 o.k) ∧ w.cell? ⟨X, 2, none⟩ = some (.int .i64 o.n) ∧ w.cell? ⟨X, 3, none⟩ = some (.int .i64 o.r) ∧
    w.cell? ⟨X, 4, none⟩ = some (.int .i64 s) ∧ w.cell? ⟨X, 5, none⟩ = some (.bool pin) ∧ w.frozen? ⟨X, 5, none⟩ = false := by
  refine ⟨?_, ?_, ?_, ?_, ?_, ?_, free_of_blk h 5⟩ <;> (rw [show ∀ j, (⟨X, j, none⟩ : Addr) = at_ X j from fun _ => rfl, cell_of_blk h]; rfl)

end Go.Proofs.Ytkloaadaicklfaa
