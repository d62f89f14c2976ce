/-
  The walks of Used and New.
-/
import Derived.Test.YtkloaadaicklfaaW2
namespace Go.Proofs.Ytkloaadaicklfaa
open Go.RowKit

theorem split_of_mem {α : Type} {p : α} {es : List α} (h : p ∈ es) : ∃ l r, es = l ++ p :: r := List.append_of_mem h

theorem MRep.alloc {w : World} {bm bh bk : Nat} {B : Int} {es : List (Nat × Kept)} (h : MRep w bm bh bk B es) (o : Obj) : MRep (w.alloc o) bm bh bk B es :=
  h.of fun _ hb => heap_alloc_old _ _ _ (h.lt hb)
theorem MRep.drew {w : World} {bm bh bk : Nat} {B : Int} {es : List (Nat × Kept)} (h : MRep w bm bh bk B es) : MRep w.drew bm bh bk B es :=
  h.of fun _ _ => rfl
theorem MRep.drewN {w : World} {bm bh bk : Nat} {B : Int} {es : List (Nat × Kept)} (h : MRep w bm bh bk B es) (n : Nat) : MRep (w.drewN n) bm bh bk B es :=
  h.of fun _ _ => rfl

theorem ext0 {S : Nat → Prop} {a b c : World} (h : Ext S a b) (k : Ext Nope b c) : Ext S a c := h.trans k (fun _ _ x => x.elim)
theorem ext1 {S : Nat → Prop} {a b c : World} (h : Ext Nope a b) (k : Ext S b c) : Ext S a c := (h.mono (fun _ x => x.elim)).trans k (fun _ _ x => x)

set_option maxHeartbeats 400000 in
theorem drop_pinned {w : World} {bm bh bk : Nat} {B : Int} {es : List (Nat × Kept)} (h : MRep w bm bh bk B es) (p : Nat × Kept) (hp : p ∈ es) (o : Own) (ho : p.2.key = o) (hpin : p.2.pinned = true) :
    Calls Try.prog 16 #[ptr bm, o.val] w fun e w' => e = .returned (.int .i64 51) ∧ Ext Nope w w' := by
  have W := find_hit (h.alloc (.cells (ownCells o) 34)) p hp o ho
  go_enter Try.func16, Try.ntmps16
  go_wp2_with fail
  refine W.mono ?_
  rintro e w' ⟨rfl, hx⟩
  have h2 := (h.alloc (.cells (ownCells o) 34)).ext hx (fun _ _ x => x)
  have c5 := (h2.ring.vals p hp).2.2.2.2.2
  rw [hpin] at c5
  clear W h2
  go_wp2
  go_ret
  exact ⟨rfl, ext0 ((Ext.refl _ _).alloc _) hx⟩

set_option maxHeartbeats 400000 in
theorem drop_hit {w : World} {bm bh bk : Nat} {B : Int} {l r : List (Nat × Kept)} {p : Nat × Kept} (h : MRep w bm bh bk B (l ++ p :: r)) (hB : Bounds B (l ++ p :: r)) (o : Own) (ho : p.2.key = o) (hpin : p.2.pinned = false) :
    Calls Try.prog 16 #[ptr bm, o.val] w fun e w' => e = .returned (.int .i64 0) ∧ MRep w' bm bh bk B (l ++ r) ∧ Ext (Foot bm bh bk (l ++ p :: r)) w w' := by
  have W := find_hit (h.alloc (.cells (ownCells o) 34)) p (by simp) o ho
  go_enter Try.func16, Try.ntmps16
  go_wp2_with fail
  refine W.mono ?_
  rintro e w' ⟨rfl, hx⟩
  have h2 := (h.alloc (.cells (ownCells o) 34)).ext hx (fun _ _ x => x)
  have c5 := (h2.ring.vals p (by simp)).2.2.2.2.2
  rw [hpin] at c5
  have R := remove_rep h2 hB
  clear W
  go_wp2_with fail
  refine R.mono ?_
  rintro e w'' ⟨rfl, hm, hx2, _⟩
  clear c5 R
  go_wp2
  go_ret
  exact ⟨rfl, hm, ext1 (ext0 ((Ext.refl _ _).alloc _) hx) hx2⟩

set_option maxHeartbeats 400000 in
theorem used_nil (w : World) : Calls Try.prog 19 #[.pointer none] w fun e w' => e = .returned (.int .i64 0) ∧ w = w' := by
  go_enter Try.func19, Try.ntmps19
  go_wp2
  go_ret
  exact ⟨rfl, rfl⟩
set_option maxHeartbeats 400000 in
theorem used_any (bm : Nat) (u : Int) (w : World) (h : w.cell? ⟨bm, 1, none⟩ = some (.int .i64 u)) : Calls Try.prog 19 #[ptr bm] w fun e w' => e = .returned (.int .i64 u) ∧ w = w' := by
  go_enter Try.func19, Try.ntmps19
  go_wp2
  go_ret
  exact ⟨rfl, rfl⟩
theorem used_rep {w : World} {bm bh bk : Nat} {B : Int} {es : List (Nat × Kept)} (h : MRep w bm bh bk B es) : Calls Try.prog 19 #[ptr bm] w fun e w' => e = .returned (.int .i64 (usedOf (kepts es))) ∧ w = w' :=
  used_any bm _ w (by rw [show (⟨bm, 1, none⟩ : Addr) = at_ bm 1 from rfl, cell_of_blk h.self]; rfl)
theorem used_zero {w : World} {bm : Nat} (h : ZRep w bm) : Calls Try.prog 19 #[ptr bm] w fun e w' => e = .returned (.int .i64 0) ∧ w = w' :=
  used_any bm _ w (by rw [show (⟨bm, 1, none⟩ : Addr) = at_ bm 1 from rfl, cell_of_blk h]; rfl)

set_option maxHeartbeats 400000 in
theorem new_bad (n : Int) (w : World) (h : n < 0 ∨ 1073741824 < n) : Calls Try.prog 12 #[.int .i64 n] w fun e w' => e = .returned (.pointer none) ∧ w = w' := by
  by_cases h1 : n < 0
  · go_enter Try.func12, Try.ntmps12
    go_wp2
    go_ret
    exact ⟨rfl, rfl⟩
  · have h2 : 1073741824 < n := by omega
    go_enter Try.func12, Try.ntmps12
    go_wp2
    go_ret
    exact ⟨rfl, rfl⟩

theorem new_rep (w : World) (k : Nat) (n : Int) :
    MRep ((((w.alloc (.cells #[.int .i64 0, .int .i64 0, .int .i64 0, .int .i64 0, .int .i64 0, .bool false, ptr w.heap.size, ptr w.heap.size] 78)).drewN k).alloc (.map #[] 0)).alloc
      (.cells #[.int .i64 n, .int .i64 0, .int .i64 0, ptr w.heap.size, .map (some (w.heap.size + 1))] 65)) (w.heap.size + 2) w.heap.size (w.heap.size + 1) n [] := by
  generalize hA : (Obj.cells #[.int .i64 0, .int .i64 0, .int .i64 0, .int .i64 0, .int .i64 0, .bool false, ptr w.heap.size, ptr w.heap.size] 78) = A
  generalize hC : (Obj.cells #[.int .i64 n, .int .i64 0, .int .i64 0, ptr w.heap.size, .map (some (w.heap.size + 1))] 65) = C
  have s1 : ((w.alloc A).drewN k).heap.size = w.heap.size + 1 := World.size_alloc _ _
  have s2 : (((w.alloc A).drewN k).alloc (.map #[] 0)).heap.size = w.heap.size + 2 := by rw [World.size_alloc, s1]
  have b0 : ((((w.alloc A).drewN k).alloc (.map #[] 0)).alloc C).heap[w.heap.size]? = some A := by
    rw [heap_alloc_old _ _ _ (by omega), heap_alloc_old _ _ _ (by omega)]; exact heap_alloc_new w A
  have b1 : ((((w.alloc A).drewN k).alloc (.map #[] 0)).alloc C).heap[w.heap.size + 1]? = some (.map #[] 0) := by
    rw [heap_alloc_old _ _ _ (by omega), ← s1]; exact heap_alloc_new _ _
  have b2 : ((((w.alloc A).drewN k).alloc (.map #[] 0)).alloc C).heap[w.heap.size + 2]? = some C := by
    rw [← s2]; exact heap_alloc_new _ _
  subst hA hC
  refine ⟨⟨by omega, by omega, by omega, by simp, by simp⟩, b2, ⟨by simp, ?_, ?_, by simp⟩, ⟨[], ⟨#[], 0, b1, rfl⟩, by simp, ?_⟩, by simp⟩
  · intro b hb
    simp only [List.map_nil, List.mem_singleton] at hb
    subst hb
    exact ⟨_, b0, rfl⟩
  · show Links 6 7 _ [w.heap.size, w.heap.size]
    refine ⟨?_, ?_, trivial⟩
    · rw [cell_of_blk b0]; rfl
    · rw [cell_of_blk b0]; rfl
  · intro o v
    simp [mget_nil]

set_option maxHeartbeats 400000 in
theorem new_good (n : Int) (w : World) (h1 : 0 ≤ n) (h2 : n ≤ 1073741824) : Calls Try.prog 12 #[.int .i64 n] w fun e w' => ∃ bm bh bk, e = .returned (ptr bm) ∧ MRep w' bm bh bk n [] ∧ Bounds n [] ∧ Ext Nope w w' ∧ (∀ b, Foot bm bh bk [] b → w.heap.size ≤ b) := by
  have hmm := @run_makeMap Try.prog
  go_enter Try.func12, Try.ntmps12
  go_wp2_with fail
  refine (ring_walk _).mono ?_
  rintro e w' ⟨rfl, k, rfl⟩
  go_wp2
  go_ret
  refine ⟨w.heap.size + 2, w.heap.size, w.heap.size + 1, rfl, new_rep w k n, ⟨h1, h2, by simp, by simpa [usedOf] using h1⟩, (((Ext.refl _ _).alloc _).drewN _ |>.alloc _).alloc _, ?_⟩
  intro b hb
  rcases hb with rfl | rfl | rfl | hb
  · omega
  · omega
  · omega
  · simp at hb

end Go.Proofs.Ytkloaadaicklfaa
