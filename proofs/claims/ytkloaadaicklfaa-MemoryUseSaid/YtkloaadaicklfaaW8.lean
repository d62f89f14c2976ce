/-
  Put where there is no room.
-/
import Derived.Test.YtkloaadaicklfaaW7
namespace Go.Proofs.Ytkloaadaicklfaa
open Go.RowKit

theorem toHid {p : Prop} (h : p) : Hid p := h

/-- The box of a key. -/
def BRow (w : World) (X : Nat) (o : Own) : Prop := w.heap[X]? = some (.cells (ownCells o) 34 (0, 0))
theorem used_nonneg {x : List (Nat × Kept)} (h : ∀ p ∈ x, 0 ≤ p.2.size ∧ p.2.size ≤ 65536) : 0 ≤ usedOf (kepts x) := by
  have := pinned_bounds x h; omega

set_option maxRecDepth 100000 in
set_option maxHeartbeats 2000000 in
theorem put_full_miss {w : World} {bm bh bk : Nat} {B : Int} {es : List (Nat × Kept)} (h : MRep w bm bh bk B es) (hB : Bounds B es) (o : Own) (s : Int) (s1 : 0 ≤ s) (s2 : s ≤ 65536) (ho : o ∉ keysOf es)
    (q : Int) (HQ : Hid (pinnedOf (kepts es) = q)) (q1 : 0 ≤ q) (q2 : q ≤ 1073741824) (hf : B < q + s) :
    Calls Try.prog 17 #[ptr bm, o.val, .int .i64 s] w fun e w' => e = .returned (.tuple #[.slice none 0 0, .int .i64 50]) ∧ Ext Nope w w' := by
  have c3 := h.c3
  have c2 : w.cell? ⟨bm, 2, none⟩ = some (.int .i64 q) := by rw [h.c2, HQ.out]
  have hlt : bm < w.heap.size := lt_of_heap h.self
  have B0 := hB.lo
  have B1 := hB.hi
  obtain ⟨bf, hbf⟩ : ∃ bf : Nat, bf = w.heap.size := ⟨_, rfl⟩
  have HBF := toHid hbf
  clear hbf
  go_enter Try.func17, Try.ntmps17
  go_wp2_with fail
  refine (find_miss (w := (w.alloc (.cells (ownCells o) 34)).alloc (.cells #[.int .i64 o.f, .int .i64 o.k, .int .i64 o.n, .int .i64 o.r, .int .i64 s, .bool false] 73)) ((h.alloc _).alloc _) o ho).mono ?_
  rintro e w2 ⟨rfl, hx⟩
  have h2 : MRep w2 bm bh bk B es := ((h.alloc _).alloc _).ext hx (fun _ _ x => x)
  have x2 : XRow w2 (w.heap.size + 1) o s false := by
    refine (hx.block _ (by simp) (fun x => x)).trans ?_
    have := heap_alloc_new (w.alloc (.cells (ownCells o) 34)) (.cells #[.int .i64 o.f, .int .i64 o.k, .int .i64 o.n, .int .i64 o.r, .int .i64 s, .bool false] 73)
    rw [World.size_alloc] at this
    exact this
  have b2 : w2.cell? ⟨w.heap.size, 0, none⟩ = some (.int .i64 o.f) ∧ w2.cell? ⟨w.heap.size, 1, none⟩ = some (.int .i64 o.k) ∧ w2.cell? ⟨w.heap.size, 2, none⟩ = some (.int .i64 o.n) ∧ w2.cell? ⟨w.heap.size, 3, none⟩ = some (.int .i64 o.r) := by
    have : w2.heap[w.heap.size]? = some (.cells (ownCells o) 34) := (hx.block _ (by simp; omega) (fun x => x)).trans ((heap_alloc_old _ _ _ (by simp)).trans (heap_alloc_new w _))
    exact ⟨by rw [show ∀ j, (⟨w.heap.size, j, none⟩ : Addr) = at_ w.heap.size j from fun _ => rfl, cell_of_blk this]; rfl, by rw [show ∀ j, (⟨w.heap.size, j, none⟩ : Addr) = at_ w.heap.size j from fun _ => rfl, cell_of_blk this]; rfl, by rw [show ∀ j, (⟨w.heap.size, j, none⟩ : Addr) = at_ w.heap.size j from fun _ => rfl, cell_of_blk this]; rfl, by rw [show ∀ j, (⟨w.heap.size, j, none⟩ : Addr) = at_ w.heap.size j from fun _ => rfl, cell_of_blk this]; rfl⟩
  have E2 : Ext Nope w w2 := ext0 (((Ext.refl _ _).alloc _).alloc _) hx
  have d0 := h2.c0
  clear hx c2 c3
  go_wp2
  go_ret2
  exact ⟨rfl, E2⟩

set_option maxRecDepth 100000 in
set_option maxHeartbeats 2000000 in
theorem put_full_hit {w : World} {bm bh bk : Nat} {B : Int} {l r : List (Nat × Kept)} {p : Nat × Kept} (h : MRep w bm bh bk B (l ++ p :: r)) (hB : Bounds B (l ++ p :: r)) (o : Own) (s : Int) (s1 : 0 ≤ s) (s2 : s ≤ 65536) (ho : p.2.key = o) (hpin : p.2.pinned = false)
    (q : Int) (HQ : Hid (pinnedOf (kepts (l ++ p :: r)) = q)) (q1 : 0 ≤ q) (q2 : q ≤ 1073741824) (hf : B < q + s) :
    Calls Try.prog 17 #[ptr bm, o.val, .int .i64 s] w fun e w' => e = .returned (.tuple #[.slice none 0 0, .int .i64 50]) ∧ Ext Nope w w' := by
  have c3 := h.c3
  have c2 : w.cell? ⟨bm, 2, none⟩ = some (.int .i64 q) := by rw [h.c2, HQ.out]
  have hlt : bm < w.heap.size := lt_of_heap h.self
  have B0 := hB.lo
  have B1 := hB.hi
  obtain ⟨bf, hbf⟩ : ∃ bf : Nat, bf = w.heap.size := ⟨_, rfl⟩
  have HBF := toHid hbf
  clear hbf
  go_enter Try.func17, Try.ntmps17
  go_wp2_with fail
  refine (find_hit (w := (w.alloc (.cells (ownCells o) 34)).alloc (.cells #[.int .i64 o.f, .int .i64 o.k, .int .i64 o.n, .int .i64 o.r, .int .i64 s, .bool false] 73)) ((h.alloc _).alloc _) p (by simp) o ho).mono ?_
  rintro e w2 ⟨rfl, hx⟩
  have h2 : MRep w2 bm bh bk B (l ++ p :: r) := ((h.alloc _).alloc _).ext hx (fun _ _ x => x)
  have x2 : XRow w2 (w.heap.size + 1) o s false := by
    refine (hx.block _ (by simp) (fun x => x)).trans ?_
    have := heap_alloc_new (w.alloc (.cells (ownCells o) 34)) (.cells #[.int .i64 o.f, .int .i64 o.k, .int .i64 o.n, .int .i64 o.r, .int .i64 s, .bool false] 73)
    rw [World.size_alloc] at this
    exact this
  have b2 : w2.cell? ⟨w.heap.size, 0, none⟩ = some (.int .i64 o.f) ∧ w2.cell? ⟨w.heap.size, 1, none⟩ = some (.int .i64 o.k) ∧ w2.cell? ⟨w.heap.size, 2, none⟩ = some (.int .i64 o.n) ∧ w2.cell? ⟨w.heap.size, 3, none⟩ = some (.int .i64 o.r) := by
    have : w2.heap[w.heap.size]? = some (.cells (ownCells o) 34) := (hx.block _ (by simp; omega) (fun x => x)).trans ((heap_alloc_old _ _ _ (by simp)).trans (heap_alloc_new w _))
    exact ⟨by rw [show ∀ j, (⟨w.heap.size, j, none⟩ : Addr) = at_ w.heap.size j from fun _ => rfl, cell_of_blk this]; rfl, by rw [show ∀ j, (⟨w.heap.size, j, none⟩ : Addr) = at_ w.heap.size j from fun _ => rfl, cell_of_blk this]; rfl, by rw [show ∀ j, (⟨w.heap.size, j, none⟩ : Addr) = at_ w.heap.size j from fun _ => rfl, cell_of_blk this]; rfl, by rw [show ∀ j, (⟨w.heap.size, j, none⟩ : Addr) = at_ w.heap.size j from fun _ => rfl, cell_of_blk this]; rfl⟩
  have E2 : Ext Nope w w2 := ext0 (((Ext.refl _ _).alloc _).alloc _) hx
  have d0 := h2.c0
  clear hx c2 c3
  obtain ⟨_, _, _, _, e4, e5⟩ := h2.ring.vals p (by simp)
  obtain ⟨z1, z2⟩ := hB.size p (by simp)
  rw [hpin] at e5
  obtain ⟨_, _, _, _, _, _, fx⟩ := x2.cells
  obtain ⟨_, _, _, _, _, hx5, _⟩ := x2.cells
  go_wp2
  go_ret2
  exact ⟨rfl, E2⟩

set_option maxRecDepth 100000 in
set_option maxHeartbeats 2000000 in
theorem put_full_pin {w : World} {bm bh bk : Nat} {B : Int} {l r : List (Nat × Kept)} {p : Nat × Kept} (h : MRep w bm bh bk B (l ++ p :: r)) (hB : Bounds B (l ++ p :: r)) (o : Own) (s : Int) (s1 : 0 ≤ s) (s2 : s ≤ 65536) (ho : p.2.key = o) (hpin : p.2.pinned = true)
    (q : Int) (HQ : Hid (pinnedOf (kepts (l ++ p :: r)) = q)) (q1 : 0 ≤ q) (q2 : q ≤ 1073741824) (hf : B < (q - p.2.size) + s) :
    Calls Try.prog 17 #[ptr bm, o.val, .int .i64 s] w fun e w' => e = .returned (.tuple #[.slice none 0 0, .int .i64 50]) ∧ Ext Nope w w' := by
  have c3 := h.c3
  have c2 : w.cell? ⟨bm, 2, none⟩ = some (.int .i64 q) := by rw [h.c2, HQ.out]
  have hlt : bm < w.heap.size := lt_of_heap h.self
  have B0 := hB.lo
  have B1 := hB.hi
  obtain ⟨bf, hbf⟩ : ∃ bf : Nat, bf = w.heap.size := ⟨_, rfl⟩
  have HBF := toHid hbf
  clear hbf
  go_enter Try.func17, Try.ntmps17
  go_wp2_with fail
  refine (find_hit (w := (w.alloc (.cells (ownCells o) 34)).alloc (.cells #[.int .i64 o.f, .int .i64 o.k, .int .i64 o.n, .int .i64 o.r, .int .i64 s, .bool false] 73)) ((h.alloc _).alloc _) p (by simp) o ho).mono ?_
  rintro e w2 ⟨rfl, hx⟩
  have h2 : MRep w2 bm bh bk B (l ++ p :: r) := ((h.alloc _).alloc _).ext hx (fun _ _ x => x)
  have x2 : XRow w2 (w.heap.size + 1) o s false := by
    refine (hx.block _ (by simp) (fun x => x)).trans ?_
    have := heap_alloc_new (w.alloc (.cells (ownCells o) 34)) (.cells #[.int .i64 o.f, .int .i64 o.k, .int .i64 o.n, .int .i64 o.r, .int .i64 s, .bool false] 73)
    rw [World.size_alloc] at this
    exact this
  have b2 : w2.cell? ⟨w.heap.size, 0, none⟩ = some (.int .i64 o.f) ∧ w2.cell? ⟨w.heap.size, 1, none⟩ = some (.int .i64 o.k) ∧ w2.cell? ⟨w.heap.size, 2, none⟩ = some (.int .i64 o.n) ∧ w2.cell? ⟨w.heap.size, 3, none⟩ = some (.int .i64 o.r) := by
    have : w2.heap[w.heap.size]? = some (.cells (ownCells o) 34) := (hx.block _ (by simp; omega) (fun x => x)).trans ((heap_alloc_old _ _ _ (by simp)).trans (heap_alloc_new w _))
    exact ⟨by rw [show ∀ j, (⟨w.heap.size, j, none⟩ : Addr) = at_ w.heap.size j from fun _ => rfl, cell_of_blk this]; rfl, by rw [show ∀ j, (⟨w.heap.size, j, none⟩ : Addr) = at_ w.heap.size j from fun _ => rfl, cell_of_blk this]; rfl, by rw [show ∀ j, (⟨w.heap.size, j, none⟩ : Addr) = at_ w.heap.size j from fun _ => rfl, cell_of_blk this]; rfl, by rw [show ∀ j, (⟨w.heap.size, j, none⟩ : Addr) = at_ w.heap.size j from fun _ => rfl, cell_of_blk this]; rfl⟩
  have E2 : Ext Nope w w2 := ext0 (((Ext.refl _ _).alloc _).alloc _) hx
  have d0 := h2.c0
  clear hx c2 c3
  obtain ⟨_, _, _, _, e4, e5⟩ := h2.ring.vals p (by simp)
  obtain ⟨z1, z2⟩ := hB.size p (by simp)
  rw [hpin] at e5
  obtain ⟨_, _, _, _, _, _, fx⟩ := x2.cells
  obtain ⟨_, _, _, _, _, hx5, _⟩ := x2.cells
  go_wp2
  go_ret2
  exact ⟨rfl, E2.setCell _ _ (fun hk => absurd hk (by omega)) _⟩

end Go.Proofs.Ytkloaadaicklfaa
