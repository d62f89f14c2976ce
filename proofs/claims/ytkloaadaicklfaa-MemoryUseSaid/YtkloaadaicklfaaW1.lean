/-
  The walks of ring and find.
-/
import Derived.Test.YtkloaadaicklfaaH2
import Derived.Test.YtkloaadaicklfaaW0
namespace Go.Proofs.Ytkloaadaicklfaa
open Go.RowKit

/-- Behind 'remove', but for the map. -/
def removedW (w : World) (bp bn bm : Nat) (u q : Int) (x : Kept) : World :=
  if x.pinned then ((leftW w bp bn).setCell (at_ bm 1) (.int .i64 (u - x.size))).setCell (at_ bm 2) (.int .i64 (q - x.size))
  else (leftW w bp bn).setCell (at_ bm 1) (.int .i64 (u - x.size))

set_option maxHeartbeats 1000000 in
theorem remove_walk (be bp bn bm bk : Nat) (x : Kept) (w : World) (u q bu : Int) (vr : Value) (B1 : -1000000000000 ≤ u ∧ u ≤ 1000000000000) (B2 : -1000000000000 ≤ q ∧ q ≤ 1000000000000) (B3 : 0 ≤ x.size ∧ x.size ≤ 65536)
    (hv : ElemVal w be x) (hp : w.cell? ⟨be, 6, none⟩ = some (ptr bp)) (hn : w.cell? ⟨be, 7, none⟩ = some (ptr bn))
    (vp : Value) (hpn : w.cell? ⟨bp, 7, none⟩ = some vp) (fpn : w.frozen? ⟨bp, 7, none⟩ = false)
    (vn : Value) (hnp : w.cell? ⟨bn, 6, none⟩ = some vn) (fnp : w.frozen? ⟨bn, 6, none⟩ = false)
    (hm : w.heap[bm]? = some (.cells #[.int .i64 bu, .int .i64 u, .int .i64 q, vr, .map (some bk)] 65 (0, 0)))
    (hmp : bm ≠ bp) (hmn : bm ≠ bn) (hme : bm ≠ be) (hkp : bk ≠ bp) (hkn : bk ≠ bn) (hkm : bk ≠ bm) (m : List (Own × Value)) (hmap : MapAs w bk m) :
    Calls Try.prog 30 #[ptr bm, ptr be] w fun e w' => e = .returned (.tuple #[]) ∧
      ∃ ob n, w' = ({ (removedW w bp bn bm u q x) with heap := (removedW w bp bn bm u q x).heap.setIfInBounds bk ob }).drewN n ∧ MapAs w' bk (mdel m x.key) := by
  have hv' : ElemVal (leftW w bp bn) be x := hv.of fun o ho => by
    unfold leftW
    rw [cell_setCell_ne _ _ _ _ _ _ (.inr (by omega)), cell_setCell_ne _ _ _ _ _ _ (.inr (by omega))]
  obtain ⟨h0, h1, h2, h3, h4, h5⟩ := hv'
  have hm1 : (leftW w bp bn).heap[bm]? = some (.cells #[.int .i64 bu, .int .i64 u, .int .i64 q, vr, .map (some bk)] 65 (0, 0)) := by
    unfold leftW
    rw [heap_setCell_ne _ _ _ _ _ hmn, heap_setCell_ne _ _ _ _ _ hmp]; exact hm
  have hk1 : MapAs (leftW w bp bn) bk m := hmap.of (by unfold leftW; rw [heap_setCell_ne _ _ _ _ _ hkn, heap_setCell_ne _ _ _ _ _ hkp])
  have W := leave_walk be bp bn w hp hn vp hpn fpn vn hnp fnp
  change Calls Try.prog 28 #[ptr be] w fun e w' => e = .returned (.tuple #[]) ∧ w' = (leftW w bp bn).drew at W
  unfold removedW
  generalize leftW w bp bn = w1 at *
  clear hp hn hpn fpn hnp fnp hm hmap hv
  have c1 : w1.cell? ⟨bm, 1, none⟩ = some (.int .i64 u) := by rw [show (⟨bm, 1, none⟩ : Addr) = at_ bm 1 from rfl, cell_of_blk hm1]; rfl
  have c2 : w1.cell? ⟨bm, 2, none⟩ = some (.int .i64 q) := by rw [show (⟨bm, 2, none⟩ : Addr) = at_ bm 2 from rfl, cell_of_blk hm1]; rfl
  have c4 : w1.cell? ⟨bm, 4, none⟩ = some (.map (some bk)) := by rw [show (⟨bm, 4, none⟩ : Addr) = at_ bm 4 from rfl, cell_of_blk hm1]; rfl
  have f1 : w1.frozen? ⟨bm, 1, none⟩ = false := free_of_blk hm1 1
  have f2 : w1.frozen? ⟨bm, 2, none⟩ = false := free_of_blk hm1 2
  have hem : be ≠ bm := fun e => hme e.symm
  clear hm1
  obtain ⟨key, size, pinned⟩ := x
  cases pinned
  all_goals
    simp only at h4 h5 B3 ⊢
    go_enter Try.func30, Try.ntmps30
    go_wp2_with fail
    refine W.mono ?_
    rintro e w' ⟨rfl, rfl⟩
    go_wp2
    go_region
    go_wp2
    try (go_region; go_wp2)
  · have hk2 : MapAs (w1.setCell ⟨bm, 1, none⟩ (.int .i64 (u - size))).drew.drew.drew bk m := hk1.of (heap_setCell_ne _ _ _ _ _ hkm)
    obtain ⟨ob, hd, hmd⟩ := run_delete34 (ty := 0) Try.underlying63 hk2 key 34
    rw [show key.val = .agg #[.int .i64 key.f, .int .i64 key.k, .int .i64 key.n, .int .i64 key.r] from rfl] at hd
    go_region
    go_end0
    exact ⟨rfl, ob, 3, rfl, hmd⟩
  · have hk2 : MapAs ((w1.setCell ⟨bm, 1, none⟩ (.int .i64 (u - size))).setCell ⟨bm, 2, none⟩ (.int .i64 (q - size))).drew.drew.drew.drew bk m :=
      hk1.of ((heap_setCell_ne _ _ _ _ _ hkm).trans (heap_setCell_ne _ _ _ _ _ hkm))
    obtain ⟨ob, hd, hmd⟩ := run_delete34 (ty := 0) Try.underlying63 hk2 key 34
    rw [show key.val = .agg #[.int .i64 key.f, .int .i64 key.k, .int .i64 key.n, .int .i64 key.r] from rfl] at hd
    go_region
    go_end0
    exact ⟨rfl, ob, 4, rfl, hmd⟩

theorem removed_heap {w : World} {bp bn bm : Nat} {u q : Int} {x : Kept} {b : Nat} (h : b ≠ bm) : (removedW w bp bn bm u q x).heap[b]? = (leftW w bp bn).heap[b]? := by
  unfold removedW
  split
  · rw [heap_setCell_ne _ _ _ _ _ h, heap_setCell_ne _ _ _ _ _ h]
  · rw [heap_setCell_ne _ _ _ _ _ h]

theorem removed_self {w : World} {bp bn bm : Nat} {u q bu : Int} {x : Kept} {v3 v4 : Value} (h : (leftW w bp bn).heap[bm]? = some (.cells #[.int .i64 bu, .int .i64 u, .int .i64 q, v3, v4] 65 (0, 0))) :
    (removedW w bp bn bm u q x).heap[bm]? = some (.cells #[.int .i64 bu, .int .i64 (u - x.size), .int .i64 (q - pinOf x), v3, v4] 65 (0, 0)) := by
  unfold removedW pinOf
  split
  · rw [heap_setCell_eq _ _ _ _ _ _ _ (heap_setCell_eq _ _ _ _ _ _ _ h)]; rfl
  · rw [heap_setCell_eq _ _ _ _ _ _ _ h, Int.sub_zero]; rfl
theorem removed_os {w : World} {bp bn bm : Nat} {u q : Int} {x : Kept} : (removedW w bp bn bm u q x).os = w.os ∧ (removedW w bp bn bm u q x).tape = w.tape ∧ (removedW w bp bn bm u q x).output = w.output ∧ (removedW w bp bn bm u q x).heap.size = w.heap.size := by
  unfold removedW leftW
  split <;> exact ⟨rfl, rfl, rfl, by simp⟩

theorem leftW_heap {w : World} {bp bn b : Nat} (h : b ≠ bp) (h' : b ≠ bn) : (leftW w bp bn).heap[b]? = w.heap[b]? := by
  unfold leftW
  rw [heap_setCell_ne _ _ _ _ _ h', heap_setCell_ne _ _ _ _ _ h]

/-- 'remove': an element that is kept is given up. -/
theorem remove_rep {w : World} {bm bh bk : Nat} {B : Int} {l r : List (Nat × Kept)} {p : Nat × Kept} (h : MRep w bm bh bk B (l ++ p :: r)) (hB : Bounds B (l ++ p :: r)) :
    Calls Try.prog 30 #[ptr bm, ptr p.1] w fun e w' => e = .returned (.tuple #[]) ∧ MRep w' bm bh bk B (l ++ r) ∧ Ext (Foot bm bh bk (l ++ p :: r)) w w' ∧ ElemVal w' p.1 p.2 := by
  obtain ⟨a1, a2, a3, a4, a5⟩ := h.apart
  obtain ⟨c6, c7, c7', c6'⟩ := h.ring.at
  have hpm := prevOf_mem bh l
  have hnm := nextOf_mem bh r
  have hP : prevOf bh l ∈ bh :: blks (l ++ p :: r) := by
    simp only [blks, List.map_append, List.map_cons, List.mem_cons, List.mem_append] at hpm ⊢; rcases hpm with h | h <;> simp [h]
  have hN : nextOf bh r ∈ bh :: blks (l ++ p :: r) := by
    simp only [blks, List.map_append, List.map_cons, List.mem_cons, List.mem_append] at hnm ⊢; rcases hnm with h | h <;> simp [h]
  have nm : ∀ b, b ∈ bh :: blks (l ++ p :: r) → b ≠ bm ∧ b ≠ bk := by
    intro b hb
    rcases List.mem_cons.1 hb with rfl | hb
    · exact ⟨fun e => a2 e.symm, fun e => a3 e.symm⟩
    · obtain ⟨y, hy, rfl⟩ := List.mem_map.1 hb
      exact ⟨a4 y hy, a5 y hy⟩
  have hpp : p.1 ∈ bh :: blks (l ++ p :: r) := by simp [blks]
  obtain ⟨m, hm, hmn, hmg⟩ := h.index
  have hbd : ∀ x : List (Nat × Kept), (∀ p ∈ x, 0 ≤ p.2.size ∧ p.2.size ≤ 65536) → 0 ≤ pinnedOf (kepts x) ∧ pinnedOf (kepts x) ≤ usedOf (kepts x) := by
    intro x
    induction x with
    | nil => intro _; simp [pinnedOf, usedOf]
    | cons y x ih =>
      intro hx
      have h1 := ih fun p hp => hx p (List.mem_cons_of_mem _ hp)
      have h2 := hx y (by simp)
      simp only [kepts, List.map_cons, pinnedOf_cons, usedOf_cons, pinOf] at h1 ⊢
      split <;> omega
  have hb1 := hbd _ hB.size
  have hb2 := hB.used
  have hb3 := hB.hi
  have hb4 := hB.lo
  have hus : usedOf (kepts (l ++ p :: r)) - p.2.size = usedOf (kepts (l ++ r)) := by
    simp only [kepts, List.map_append, List.map_cons, usedOf_append, usedOf_cons]; omega
  have hpi : pinnedOf (kepts (l ++ p :: r)) - pinOf p.2 = pinnedOf (kepts (l ++ r)) := by
    simp only [kepts, List.map_append, List.map_cons, pinnedOf_append, pinnedOf_cons]; omega
  obtain ⟨hring, hval⟩ := h.ring.leave
  refine (remove_walk p.1 (prevOf bh l) (nextOf bh r) bm bk p.2 w _ _ B (ptr bh) (by omega) (by omega) (hB.size p (by simp)) (h.ring.vals p (by simp)) c6 c7 _ c7' ((h.ring.rows _ hP).free 7) _ c6' ((h.ring.rows _ hN).free 6)
    h.self (fun e => (nm _ hP).1 e.symm) (fun e => (nm _ hN).1 e.symm) (fun e => (nm _ hpp).1 e.symm) (fun e => (nm _ hP).2 e.symm) (fun e => (nm _ hN).2 e.symm) (fun e => a1 e.symm) m hm).mono ?_
  rintro e w' ⟨rfl, ob, n, rfl, hmap'⟩
  have hself : (leftW w (prevOf bh l) (nextOf bh r)).heap[bm]? = w.heap[bm]? := leftW_heap (fun e => (nm _ hP).1 e.symm) (fun e => (nm _ hN).1 e.symm)
  obtain ⟨o1, o2, o3, o4⟩ := removed_os (w := w) (bp := prevOf bh l) (bn := nextOf bh r) (bm := bm) (u := usedOf (kepts (l ++ p :: r))) (q := pinnedOf (kepts (l ++ p :: r))) (x := p.2)
  have hs2 := removed_self (x := p.2) (hself.trans h.self)
  rw [hus, hpi] at hs2
  have hblk : ∀ b, b ≠ bm → b ≠ bk → ((removedW w (prevOf bh l) (nextOf bh r) bm (usedOf (kepts (l ++ p :: r))) (pinnedOf (kepts (l ++ p :: r))) p.2).heap.setIfInBounds bk ob)[b]? = (leftW w (prevOf bh l) (nextOf bh r)).heap[b]? := by
    intro b h1 h2
    rw [Array.getElem?_setIfInBounds_ne (fun e => h2 e.symm), removed_heap h1]
  generalize removedW w (prevOf bh l) (nextOf bh r) bm (usedOf (kepts (l ++ p :: r))) (pinnedOf (kepts (l ++ p :: r))) p.2 = W at *
  have hsub : ∀ q ∈ l ++ r, q ∈ l ++ p :: r := by
    intro q hq
    simp only [List.mem_append, List.mem_cons] at hq ⊢
    rcases hq with h | h <;> simp [h]
  have hval' : ∀ {b : Nat} {x : Kept}, b ∈ bh :: blks (l ++ p :: r) → ElemVal (leftW w (prevOf bh l) (nextOf bh r)) b x → ElemVal ({ W with heap := W.heap.setIfInBounds bk ob }.drewN n) b x := fun {b x} hb hx =>
    hx.of fun o _ => World.cell?_of_block (w := leftW w (prevOf bh l) (nextOf bh r)) (hblk b (nm b hb).1 (nm b hb).2)
  refine ⟨rfl, ⟨⟨a1, a2, a3, fun q hq => a4 q (hsub q hq), fun q hq => a5 q (hsub q hq)⟩, ?_, hring.of ?_, Index.del hmg hmn h.keys hmap', ?_⟩, ⟨o1, o2, o3, ?_, ?_⟩, hval' hpp hval⟩
  · show (W.heap.setIfInBounds bk ob)[bm]? = _
    rw [Array.getElem?_setIfInBounds_ne (fun e => a1 e.symm)]; exact hs2
  · intro b hb
    have : b ∈ bh :: blks (l ++ p :: r) := by
      rcases List.mem_cons.1 hb with rfl | hb
      · simp
      · obtain ⟨y, hy, rfl⟩ := List.mem_map.1 hb
        exact List.mem_cons_of_mem _ (List.mem_map_of_mem (hsub y hy))
    exact hblk b (nm b this).1 (nm b this).2
  · refine List.Nodup.sublist ?_ h.keys
    simp only [keysOf, List.map_append, List.map_cons]
    exact List.Sublist.append (List.Sublist.refl _) (List.sublist_cons_self _ _)
  · show w.heap.size ≤ (W.heap.setIfInBounds bk ob).size
    simp [o4]
  · intro b _ hb
    have h1 : b ≠ bm := fun e => hb (.inl e)
    have h2 : b ≠ bk := fun e => hb (.inr (.inr (.inl e)))
    have h3 : b ∉ bh :: blks (l ++ p :: r) := fun e => by
      rcases List.mem_cons.1 e with rfl | e
      · exact hb (.inr (.inl rfl))
      · exact hb (.inr (.inr (.inr e)))
    refine (hblk b h1 h2).trans (leftW_heap ?_ ?_)
    · rintro rfl; exact h3 hP
    · rintro rfl; exact h3 hN

end Go.Proofs.Ytkloaadaicklfaa
