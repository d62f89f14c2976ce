/-
  The reference memory: Use.
-/
import Derived.Test.YtkloaadaicklfaaR3
namespace Go.Proofs.Ytkloaadaicklfaa
open Go.RowKit
attribute [local go_sem] alloc_drewN setCell_drewN

abbrev keptRow (x : Kept) : Array Value := #[.int .i64 x.key.f, .int .i64 x.key.k, .int .i64 x.key.n, .int .i64 x.key.r, .int .i64 x.size, .bool x.pinned]

theorem news_kept {w : World} {E : Nat} {x : Kept} {T : TypeId} {fz : Nat × Nat} (h : w.heap[E]? = some (.cells (keptRow x) T fz)) : ∀ j u, (keptCells [x])[j]? = some u → w.cell? (Addr.add ⟨E, 0, none⟩ j) = some u := by
  intro j u hj
  have e : Addr.add ⟨E, 0, none⟩ j = at_ E j := by unfold Addr.add; split <;> simp_all
  rw [e, cell_of_blk h, ← Array.getElem?_toList]
  exact hj

theorem KeptAt.shape {w : World} {base : Nat} {u : Value} {xs : List Kept} (h : KeptAt w base u xs) : ∃ a l c, u = .slice a l c := by
  obtain ⟨_, ⟨hv, _⟩ | ⟨g, cap, cur, hv, _⟩⟩ := h
  · exact ⟨_, _, _, hv⟩
  · exact ⟨_, _, _, hv⟩
theorem KeptAt.mono {w : World} {base base' : Nat} {v : Value} {ks : List Kept} (h : KeptAt w base v ks) (hb : base' ≤ base) : KeptAt w base' v ks := by
  obtain ⟨h1, h2⟩ := h
  refine ⟨h1, h2.imp id ?_⟩
  rintro ⟨g, cap, cur, hv, hg, rest⟩
  exact ⟨g, cap, cur, hv, Nat.le_trans hb hg, rest⟩
theorem ownsRow_shape {w : World} {base : Nat} {e : TypeId} {size n : Nat} {u : Value} {xs : List Value} (h : w.ownsRow base e size u n xs) : ∃ a l c, u = .slice a l c := by
  obtain ⟨_, ⟨hv, _⟩ | ⟨g, cap, cur, hv, _⟩⟩ := h
  · exact ⟨_, _, _, hv⟩
  · exact ⟨_, _, _, hv⟩
theorem KeptAt.own {w : World} {base : Nat} {v : Value} {ks : List Kept} (h : KeptAt w base v ks) : w.ownsRow base 55 6 v ks.length (keptCells ks) := h

theorem ruse_end {w w0 w4 : World} {br : Nat} {B : Int} {v u : Value} {xs ys : List Kept} {x : Kept} (h0 : RRep w0 br B v xs) (he : Ext Nope w0 w4) (hu : w4.ownsRow w0.heap.size 55 6 u (ys.length + 1) (keptCells ys ++ keptCells [x])) (hE0 : Ext Nope w w0) :
    RRep (w4.setCell ⟨br, 2, none⟩ u) br B u (ys ++ [x]) ∧ Ext (RFoot br v) w (w4.setCell ⟨br, 2, none⟩ u) ∧ ∀ k, u.ownBlock = some k → w.heap.size ≤ k := by
  have hk : KeptAt w4 w0.heap.size u (ys ++ [x]) := by
    show w4.ownsRow w0.heap.size 55 6 u (ys ++ [x]).length (keptCells (ys ++ [x]))
    rw [keptCells_append, List.length_append]; exact hu
  obtain ⟨r1, r2⟩ := h0.relist he hk
  exact ⟨r1, ext1 hE0 r2, fun k hk1 => Nat.le_trans hE0.size (hk.lt k hk1).1⟩

set_option maxRecDepth 100000 in
set_option maxHeartbeats 2000000 in
theorem ruse_hit {w : World} {br : Nat} {B : Int} {v : Value} {a b : List Kept} {x : Kept} (h : RRep w br B v (a ++ x :: b)) (o : Own) (hx : x.key = o) (ha : ∀ y ∈ a, y.key ≠ o) (hlen : (a ++ x :: b).length ≤ 1000000) :
    Calls Try.prog 31 #[ptr br, o.val] w fun e w' => e = .returned (.bool true) ∧ ∃ u, RRep w' br B u (a ++ b ++ [x]) ∧ Ext (RFoot br v) w w' ∧ ∀ k, u.ownBlock = some k → w.heap.size ≤ k := by
  have F := rfind_hit (h.alloc (.cells (ownCells o) 34)) o hx ha hlen
  clear hx
  obtain ⟨_, hnil⟩ | ⟨g, cap, hv, hcap, hmax⟩ := h.shape
  · simp at hnil
  have hal : a.length < (a ++ x :: b).length := by simp
  obtain ⟨i0, hi, hz0, hz1, hz2⟩ := info_parts info55
  obtain ⟨n, HN⟩ : ∃ n, Hid ((a ++ x :: b).length = n) := ⟨_, rfl⟩
  rw [HN.out] at hv hcap hlen hal
  subst hv
  unfold maxLen at hmax
  go_enter Try.func31, Try.ntmps31
  go_wp2_with fail
  refine F.mono ?_
  rintro e w2 ⟨rfl, hE⟩
  have h2 := (h.alloc (.cells (ownCells o) 34)).ext hE (fun x => x) (fun _ _ x => x)
  have hE2 := ext0 ((Ext.refl Nope w).alloc (.cells (ownCells o) 34)) hE
  have c2 := h2.c2
  obtain ⟨y0, y1, y2, y3, y4, y5⟩ := kept_cells h2.list
  have hlt2 := lt_of_heap h2.self
  clear F hE
  have hk0 : (0 : Int) ≤ (a.length : Int) := Int.natCast_nonneg _
  go_wp2_with fail
  have h0 := h2.alloc (.cells (keptRow x) 55)
  have hE0 : Ext Nope w (w2.alloc (.cells (keptRow x) 55)) := hE2.alloc _
  have X0 : (w2.alloc (.cells (keptRow x) 55)).heap[w2.heap.size]? = some (.cells (keptRow x) 55 (0, 0)) := heap_alloc_new _ _
  clear h2 hE2 c2 y0 y1 y2 y3 y4 y5
  generalize w2.heap.size = X at *
  generalize (w2.alloc (.cells (keptRow x) 55)) = w0 at *
  have W : ∀ w', Ext Nope w0 w' → Calls Try.prog 36 #[ptr br, .int .i64 a.length] w' fun e w3 => ∃ u, e = .returned u ∧ KeptAt w3 w0.heap.size u (a ++ b) ∧ Ext Nope w' w3 := by
    intro w' hw'
    have hh := h0.ext hw' (fun x => x) (fun _ _ x => x)
    refine (without_walk br g n cap a.length a b x w' hh.c2 hh.list (by rw [← HN.out]; simp; omega) rfl hcap hlen (by omega)).mono ?_
    rintro e w3 ⟨u, he, hk, hE⟩
    exact ⟨u, he, hk.mono hw'.size, hE⟩
  have x0 := cell_of_blk X0
  have X00 := x0 0
  have X01 := x0 1
  have X02 := x0 2
  have X03 := x0 3
  have X04 := x0 4
  have X05 := x0 5
  simp only [List.getElem?_toArray, List.getElem?_cons_zero, List.getElem?_cons_succ] at X00 X01 X02 X03 X04 X05
  have hlb : (keptCells [x]).length = 1 * 6 := rfl
  have hab : (a ++ b).length + 1 ≤ 1000000 := by have := HN.out; simp at this ⊢; omega
  have hf0 := free_of_blk h0.self 2
  have hd0 := h0.c2
  have hXlt := lt_of_heap X0
  have hbl : br < w0.heap.size := by omega
  have hbX : br ≠ X := by omega
  go_region_held3 (fun w' => w'.cell? ⟨X, 0, none⟩ = some (.int .i64 x.key.f) ∧ w'.cell? ⟨X, 1, none⟩ = some (.int .i64 x.key.k) ∧ w'.cell? ⟨X, 2, none⟩ = some (.int .i64 x.key.n) ∧ w'.cell? ⟨X, 3, none⟩ = some (.int .i64 x.key.r) ∧ w'.cell? ⟨X, 4, none⟩ = some (.int .i64 x.size) ∧ w'.cell? ⟨X, 5, none⟩ = some (.bool x.pinned))
    (first | go_keep | (refine ⟨?_, ?_, ?_, ?_, ?_, ?_⟩ <;> (rw [World.cell?_of_block (hE3.block X (by first | assumption | (simp; omega)) (fun x => x))]; first | assumption | go_keep)) | (refine ⟨?_, ?_, ?_, ?_, ?_, ?_⟩ <;> (rw [hgrow4.cell_far _ (by have := hE3.size; simp at this ⊢; omega) hxb]; first | assumption | go_keep)))
    ((first
      | (go_at_call 36; refine (W _ (by repeat (first | exact Ext.refl _ _ | refine Ext.drew ?_ | refine Ext.alloc ?_ _))).mono ?_; rintro e w3 ⟨u, rfl, hk3, hE3⟩; have hxb : some X ≠ u.ownBlock := fun e => (by have := (hk3.own.lt X e.symm).1; omega); have hxc : some br ≠ u.ownBlock := fun e => (by have := (hk3.own.lt br e.symm).1; omega); have hX3 : Ext Nope w0 w3 := ext0 (by repeat (first | exact Ext.refl _ _ | refine Ext.drew ?_ | refine Ext.alloc ?_ _)) hE3)
      | (refine step_append_own (by rfl) (.tmp 22) (.tmp 24) _ (by rfl) w0.heap.size 55 i0 _ 6 48 Try.underlying51 hi hz0 hz1 hz2 rfl (by omega) _ _ _ (by rfl) (hk3.own.alloc _) ⟨w3.heap.size, 0, none⟩ 1 1 (keptCells [x]) (by rfl) hlb (news_kept (x := x) (heap_alloc_new w3 _)) (keptCells_one _) (by unfold maxLen; omega) (by omega) (by have := hE3.size; simp at this ⊢; omega) ?_; intro v4 w4 hown4 hgrow4 _; obtain ⟨va, vl, vc, rfl⟩ := ownsRow_shape hown4; have hs4 := (hgrow4.block br (by have := hE3.size; simp at this ⊢; omega) hxc).trans ((heap_alloc_old w3 _ _ (by have := hE3.size; simp at this; omega)).trans ((hE3.block br (by first | assumption | (simp; omega)) (fun x => x)).trans h0.self)); have d4 : w4.cell? ⟨br, 2, none⟩ = some (.slice (some ⟨g, 0, none⟩) n cap) := (cell_of_blk hs4 2).trans rfl; have f4 : w4.frozen? ⟨br, 2, none⟩ = false := free_of_blk hs4 2; have HR := ruse_end h0 ((hX3.alloc _).grown hgrow4 (fun k hk hl => absurd (hk3.own.lt k hk).1 (by omega))) hown4 hE0)
      | (refine step_append_own (by rfl) (.tmp 22) (.tmp 24) _ (by rfl) w0.heap.size 55 i0 _ 6 48 Try.underlying51 hi hz0 hz1 hz2 rfl (by omega) _ _ _ (by rfl) hk3.own ⟨w0.heap.size, 0, none⟩ 1 1 (keptCells [x]) (by rfl) hlb (news_kept (x := x) ((hE3.block _ (by simp) (fun x => x)).trans (heap_alloc_new w0 _))) (keptCells_one _) (by unfold maxLen; omega) (by omega) (by have := hE3.size; simp at this; omega) ?_; intro v4 w4 hown4 hgrow4 _; obtain ⟨va, vl, vc, rfl⟩ := ownsRow_shape hown4; have hs4 := (hgrow4.block br (by have := hE3.size; simp at this ⊢; omega) hxc).trans ((hE3.block br (by first | assumption | (simp; omega)) (fun x => x)).trans ((heap_alloc_old w0 _ _ (by omega)).trans h0.self)); have d4 : w4.cell? ⟨br, 2, none⟩ = some (.slice (some ⟨g, 0, none⟩) n cap) := (cell_of_blk hs4 2).trans rfl; have f4 : w4.frozen? ⟨br, 2, none⟩ = false := free_of_blk hs4 2; have HR := ruse_end h0 (hX3.grown hgrow4 (fun k hk hl => absurd (hk3.own.lt k hk).1 (by omega))) hown4 hE0)))
  all_goals
    clear hk3 hE3 hX3 hown4 hgrow4 hs4 W
    go_wp2
    go_ret
    exact ⟨rfl, _, HR⟩

end Go.Proofs.Ytkloaadaicklfaa
