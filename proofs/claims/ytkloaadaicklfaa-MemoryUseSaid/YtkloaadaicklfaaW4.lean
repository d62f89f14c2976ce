/-
  The walks of remove, Use and Pin.
-/
import Derived.Test.YtkloaadaicklfaaW3
namespace Go.Proofs.Ytkloaadaicklfaa
open Go.RowKit

theorem leave_rep {w : World} {bh : Nat} {l r : List (Nat × Kept)} {p : Nat × Kept} (h : Ring w bh (l ++ p :: r)) :
    Calls Try.prog 28 #[ptr p.1] w fun e w' => e = .returned (.tuple #[]) ∧ w' = (leftW w (prevOf bh l) (nextOf bh r)).drew := by
  obtain ⟨c6, c7, c7', c6'⟩ := h.at
  have hpm := prevOf_mem bh l
  have hnm := nextOf_mem bh r
  have hP : prevOf bh l ∈ bh :: blks (l ++ p :: r) := by
    simp only [blks, List.map_append, List.map_cons, List.mem_cons, List.mem_append] at hpm ⊢; rcases hpm with h | h <;> simp [h]
  have hN : nextOf bh r ∈ bh :: blks (l ++ p :: r) := by
    simp only [blks, List.map_append, List.map_cons, List.mem_cons, List.mem_append] at hnm ⊢; rcases hnm with h | h <;> simp [h]
  exact leave_walk p.1 _ _ w c6 c7 _ c7' ((h.rows _ hP).free 7) _ c6' ((h.rows _ hN).free 6)

theorem Ring.ends {w : World} {bh : Nat} {es : List (Nat × Kept)} (h : Ring w bh es) : w.cell? (at_ bh 6) = some (ptr (prevOf bh es)) ∧ w.cell? (at_ (prevOf bh es) 7) = some (ptr bh) := by
  obtain ⟨i, hi⟩ := prevOf_split bh es
  have hl := h.links
  have e0 : bh :: (blks es ++ [bh]) = i ++ prevOf bh es :: [bh] := by
    rw [show bh :: (blks es ++ [bh]) = (bh :: blks es) ++ [bh] from rfl, hi]; simp
  rw [e0, Links.append] at hl
  exact ⟨hl.2.2.1, hl.2.1⟩
theorem Ring.starts {w : World} {bh : Nat} {es : List (Nat × Kept)} (h : Ring w bh es) : w.cell? (at_ bh 7) = some (ptr (nextOf bh es)) := by
  obtain ⟨t, ht⟩ := nextOf_split bh es
  have hl := h.links
  rw [ht] at hl
  exact hl.1

theorem last_rep {w : World} {bh be : Nat} {es : List (Nat × Kept)} (h : Ring w bh es) (hr : Row w be 8 78) (hn : be ∉ bh :: blks es) :
    Calls Try.prog 29 #[ptr be, ptr bh] w fun e w' => e = .returned (.tuple #[]) ∧ ∃ n, w' = (lastW w be bh (prevOf bh es)).drewN n := by
  obtain ⟨c1, c2⟩ := h.ends
  obtain ⟨v6, h6⟩ := hr.cell (o := 6) (by omega)
  obtain ⟨v7, h7⟩ := hr.cell (o := 7) (by omega)
  exact last_walk be bh _ w v6 v7 _ h6 h7 (hr.free 6) (hr.free 7) c1 ((h.rows bh (by simp)).free 6) c2 ((h.rows _ (prevOf_mem bh es)).free 7) (fun e => hn (by simp [e])) (fun e => hn (e ▸ prevOf_mem bh es))

theorem lastW_heap {w : World} {be bh bp b : Nat} (h1 : b ≠ be) (h2 : b ≠ bh) (h3 : b ≠ bp) : (lastW w be bh bp).heap[b]? = w.heap[b]? := by
  unfold lastW
  rw [heap_setCell_ne _ _ _ _ _ h2, heap_setCell_ne _ _ _ _ _ h3, heap_setCell_ne _ _ _ _ _ h1, heap_setCell_ne _ _ _ _ _ h1]

theorem usedOf_move (l r : List Kept) (x : Kept) : usedOf (l ++ r ++ [x]) = usedOf (l ++ x :: r) := by
  simp [usedOf]; omega
theorem pinnedOf_move (l r : List Kept) (x : Kept) : pinnedOf (l ++ r ++ [x]) = pinnedOf (l ++ x :: r) := by
  simp [pinnedOf]; omega
theorem mem_move {α : Type} {l r : List α} {x y : α} : y ∈ l ++ r ++ [x] ↔ y ∈ l ++ x :: r := by
  simp only [List.mem_append, List.mem_cons]
  constructor
  · rintro ((h | h) | h)
    · exact .inl h
    · exact .inr (.inr h)
    · rcases h with h | h
      · exact .inr (.inl h)
      · simp at h
  · rintro (h | h | h)
    · exact .inl (.inl h)
    · exact .inr (.inl h)
    · exact .inl (.inr h)
theorem perm_move {α : Type} (l r : List α) (x : α) : (l ++ r ++ [x]).Perm (l ++ x :: r) := by
  rw [List.append_assoc]
  exact List.Perm.append_left _ (List.perm_append_comm (l₁ := r) (l₂ := [x]))
theorem Bounds.move {B : Int} {l r : List (Nat × Kept)} {p : Nat × Kept} (h : Bounds B (l ++ p :: r)) : Bounds B (l ++ r ++ [p]) :=
  ⟨h.lo, h.hi, fun q hq => h.size q (mem_move.1 hq), by
    have := h.used
    simp only [kepts, List.map_append, List.map_cons, List.map_nil] at this ⊢
    rw [usedOf_move]; exact this⟩
theorem Bounds.erase {B : Int} {l r : List (Nat × Kept)} {p : Nat × Kept} (h : Bounds B (l ++ p :: r)) : Bounds B (l ++ r) := by
  refine ⟨h.lo, h.hi, fun q hq => h.size q ?_, ?_⟩
  · simp only [List.mem_append, List.mem_cons] at hq ⊢; rcases hq with h | h <;> simp [h]
  · have h1 := h.used
    have h2 := h.size p (by simp)
    simp only [kepts, List.map_append, List.map_cons, usedOf_append, usedOf_cons] at h1 ⊢
    omega

/-- Leaving and coming last. -/
theorem MRep.moved {w : World} {bm bh bk : Nat} {B : Int} {l r : List (Nat × Kept)} {p : Nat × Kept} (h : MRep w bm bh bk B (l ++ p :: r)) :
    MRep (lastW (leftW w (prevOf bh l) (nextOf bh r)).drew p.1 bh (prevOf bh (l ++ r))) bm bh bk B (l ++ r ++ [p]) ∧
    Ext (Foot bm bh bk (l ++ p :: r)) w (lastW (leftW w (prevOf bh l) (nextOf bh r)).drew p.1 bh (prevOf bh (l ++ r))) := by
  obtain ⟨a1, a2, a3, a4, a5⟩ := h.apart
  have hpm := prevOf_mem bh l
  have hnm := nextOf_mem bh r
  have hqm := prevOf_mem bh (l ++ r)
  have hP : prevOf bh l ∈ bh :: blks (l ++ p :: r) := by
    simp only [blks, List.map_append, List.map_cons, List.mem_cons, List.mem_append] at hpm ⊢; rcases hpm with h | h <;> simp [h]
  have hN : nextOf bh r ∈ bh :: blks (l ++ p :: r) := by
    simp only [blks, List.map_append, List.map_cons, List.mem_cons, List.mem_append] at hnm ⊢; rcases hnm with h | h <;> simp [h]
  have hQ : prevOf bh (l ++ r) ∈ bh :: blks (l ++ p :: r) := by
    simp only [blks, List.map_append, List.map_cons, List.mem_cons, List.mem_append] at hqm ⊢; rcases hqm with h | h | h <;> simp [h]
  have hpp : p.1 ∈ bh :: blks (l ++ p :: r) := by simp [blks]
  have nm : ∀ b, b ∈ bh :: blks (l ++ p :: r) → b ≠ bm ∧ b ≠ bk := by
    intro b hb
    rcases List.mem_cons.1 hb with rfl | hb
    · exact ⟨fun e => a2 e.symm, fun e => a3 e.symm⟩
    · obtain ⟨y, hy, rfl⟩ := List.mem_map.1 hb
      exact ⟨a4 y hy, a5 y hy⟩
  obtain ⟨hring, hval⟩ := h.ring.leave
  have hrow : Row (leftW w (prevOf bh l) (nextOf bh r)) p.1 8 78 := ((h.ring.rows _ hpp).setCell _ _ _).setCell _ _ _
  have hnotin : p.1 ∉ bh :: blks (l ++ r) := by
    have hnd := h.ring.nodup
    simp only [blks, List.map_append, List.map_cons] at hnd ⊢
    have : ((p.1) :: (bh :: (l.map (·.1) ++ r.map (·.1)))).Nodup := by
      refine (List.Perm.nodup_iff ?_).1 hnd
      refine List.Perm.trans (List.Perm.cons _ (List.perm_middle)) ?_
      exact List.Perm.swap _ _ _
    exact (List.nodup_cons.1 this).1
  have hleft : ∀ b, b ≠ prevOf bh l → b ≠ nextOf bh r → (leftW w (prevOf bh l) (nextOf bh r)).heap[b]? = w.heap[b]? := fun b => leftW_heap
  have hos : (leftW w (prevOf bh l) (nextOf bh r)).os = w.os ∧ (leftW w (prevOf bh l) (nextOf bh r)).tape = w.tape ∧ (leftW w (prevOf bh l) (nextOf bh r)).output = w.output ∧ (leftW w (prevOf bh l) (nextOf bh r)).heap.size = w.heap.size :=
    ⟨rfl, rfl, rfl, by simp [leftW]⟩
  generalize leftW w (prevOf bh l) (nextOf bh r) = w1 at *
  obtain ⟨w2, hw2⟩ : ∃ w2, w1.drew = w2 := ⟨_, rfl⟩
  have hblk2 : ∀ b : Nat, w2.heap[b]? = w1.heap[b]? := fun b => by rw [← hw2]; rfl
  have hos2 : w2.os = w.os ∧ w2.tape = w.tape ∧ w2.output = w.output ∧ w2.heap.size = w.heap.size := by rw [← hw2]; exact hos
  rw [hw2]
  have hl2 : Ring (lastW w2 p.1 bh (prevOf bh (l ++ r))) bh (l ++ r ++ [(p.1, p.2)]) :=
    Ring.last (hring.of fun b _ => hblk2 b) (hrow.of_eq (hblk2 _)) (hval.of fun o _ => World.cell?_of_block (w := w1) (hblk2 _)) hnotin
  have hb : ∀ b, b ∉ bh :: blks (l ++ p :: r) → (lastW w2 p.1 bh (prevOf bh (l ++ r))).heap[b]? = w.heap[b]? := by
    intro b hb
    have n1 : b ≠ p.1 := fun e => hb (e ▸ hpp)
    have n2 : b ≠ bh := fun e => hb (by simp [e])
    have n3 : b ≠ prevOf bh (l ++ r) := fun e => hb (e ▸ hQ)
    have n4 : b ≠ prevOf bh l := fun e => hb (e ▸ hP)
    have n5 : b ≠ nextOf bh r := fun e => hb (e ▸ hN)
    exact (lastW_heap n1 n2 n3).trans ((hblk2 b).trans (hleft b n4 n5))
  refine ⟨⟨⟨a1, a2, a3, fun q hq => a4 q (mem_move.1 hq), fun q hq => a5 q (mem_move.1 hq)⟩, ?_, hl2, ?_, ?_⟩, ⟨hos2.1, hos2.2.1, hos2.2.2.1, ?_, ?_⟩⟩
  · refine (hb bm (fun e => (nm _ e).1 rfl)).trans ?_
    have := h.self
    simp only [kepts, List.map_append, List.map_cons, List.map_nil] at this ⊢
    rw [usedOf_move, pinnedOf_move]; exact this
  · obtain ⟨m, h1, h2, h3⟩ := h.index
    refine ⟨m, h1.of (hb bk (fun e => (nm _ e).2 rfl)), h2, fun o v => (h3 o v).trans ?_⟩
    constructor
    · rintro ⟨q, hq, h⟩; exact ⟨q, mem_move.2 hq, h⟩
    · rintro ⟨q, hq, h⟩; exact ⟨q, mem_move.1 hq, h⟩
  · have := h.keys
    simp only [keysOf, List.map_append, List.map_cons, List.map_nil] at this ⊢
    exact ((perm_move _ _ _).nodup_iff).2 this
  · simp [lastW, hos2.2.2.2]
  · intro b _ hf
    refine hb b fun e => hf ?_
    rcases List.mem_cons.1 e with rfl | e
    · exact .inr (.inl rfl)
    · exact .inr (.inr (.inr e))

set_option maxHeartbeats 400000 in
theorem use_hit {w : World} {bm bh bk : Nat} {B : Int} {l r : List (Nat × Kept)} {p : Nat × Kept} (h : MRep w bm bh bk B (l ++ p :: r)) (o : Own) (ho : p.2.key = o) :
    Calls Try.prog 14 #[ptr bm, o.val] w fun e w' => e = .returned (.bool true) ∧ MRep w' bm bh bk B (l ++ r ++ [p]) ∧ Ext (Foot bm bh bk (l ++ p :: r)) w w' := by
  have W := find_hit (h.alloc (.cells (ownCells o) 34)) p (by simp) o ho
  go_enter Try.func14, Try.ntmps14
  go_wp2_with fail
  refine W.mono ?_
  rintro e w' ⟨rfl, hx⟩
  have h2 := (h.alloc (.cells (ownCells o) 34)).ext hx (fun _ _ x => x)
  clear W
  have L := leave_rep h2.ring
  go_wp2_with fail
  refine L.mono ?_
  rintro e w'' ⟨rfl, hw⟩
  obtain ⟨g1, g2⟩ := h2.moved
  have c3 : w''.cell? ⟨bm, 3, none⟩ = some (ptr bh) := by
    obtain ⟨a1, a2, a3, a4, a5⟩ := h2.apart
    have : w''.heap[bm]? = w'.heap[bm]? := by
      rw [hw]
      refine leftW_heap (w := w') ?_ ?_
      · intro e
        have := prevOf_mem bh l
        rw [← e] at this
        rcases List.mem_cons.1 this with h | h
        · exact a2 h
        · obtain ⟨y, hy, hy2⟩ := List.mem_map.1 h
          exact a4 y (by simp [hy]) hy2
      · intro e
        have := nextOf_mem bh r
        rw [← e] at this
        rcases List.mem_cons.1 this with h | h
        · exact a2 h
        · obtain ⟨y, hy, hy2⟩ := List.mem_map.1 h
          exact a4 y (by simp [hy]) hy2
    rw [show (⟨bm, 3, none⟩ : Addr) = at_ bm 3 from rfl, cell_of_blk (this.trans h2.self)]; rfl
  have K : Calls Try.prog 29 #[ptr p.1, ptr bh] w'' fun e w3 => e = .returned (.tuple #[]) ∧ ∃ n, w3 = (lastW w'' p.1 bh (prevOf bh (l ++ r))).drewN n := by
    rw [hw]
    obtain ⟨hring, hval⟩ := h2.ring.leave
    refine last_rep (w := (leftW w' (prevOf bh l) (nextOf bh r)).drew) (hring.of fun _ _ => rfl) (((h2.ring.rows _ (by simp [blks])).setCell _ _ _).setCell _ _ _) ?_
    have hnd := h2.ring.nodup
    simp only [blks, List.map_append, List.map_cons] at hnd ⊢
    have : ((p.1) :: (bh :: (l.map (·.1) ++ r.map (·.1)))).Nodup := by
      refine (List.Perm.nodup_iff ?_).1 hnd
      refine List.Perm.trans (List.Perm.cons _ (List.perm_middle)) ?_
      exact List.Perm.swap _ _ _
    exact (List.nodup_cons.1 this).1
  have HW : Hid (w'' = (leftW w' (prevOf bh l) (nextOf bh r)).drew) := hw
  clear hw L
  go_wp2_with fail
  refine K.mono ?_
  rintro e w3 ⟨rfl, n, hw3⟩
  have H3 : Hid (w3 = (lastW w'' p.1 bh (prevOf bh (l ++ r))).drewN n) := hw3
  clear hw3 K c3
  go_wp2
  go_ret
  have e3 := H3.out
  rw [HW.out] at e3
  subst e3
  exact ⟨rfl, g1.drewN n, ext1 (ext0 ((Ext.refl _ _).alloc _) hx) (g2.drewN n)⟩

end Go.Proofs.Ytkloaadaicklfaa
