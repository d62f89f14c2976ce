/-
  The reference memory: Put, its plain laws.
-/
import Derived.Test.YtkloaadaicklfaaR5
import Derived.Deep.LoopGhost
import Derived.Deep.RegionLaw
namespace Go.Proofs.Ytkloaadaicklfaa
open Go.RowKit
attribute [local go_sem] alloc_drewN setCell_drewN

/-- What is given up, of keys and sizes alone. -/
def evictK (B : Int) : Int → List Kept → List Own × List Kept
  | _, [] => ([], [])
  | u, p :: r => if B < u then (if p.pinned then ((evictK B u r).1, p :: (evictK B u r).2) else (p.key :: (evictK B (u - p.size) r).1, (evictK B (u - p.size) r).2)) else ([], p :: r)

def EvK (B s : Int) (ys a c : List Kept) (gone : List Own) : Prop :=
  (evictK B (usedOf ys + s) ys).1 = gone ++ (evictK B (usedOf (a ++ c) + s) c).1 ∧ (evictK B (usedOf ys + s) ys).2 = a ++ (evictK B (usedOf (a ++ c) + s) c).2
theorem EvK.keep {B s : Int} {ys a c : List Kept} {y : Kept} {gone : List Own} (h : EvK B s ys a (y :: c) gone) (hg : B < usedOf (a ++ y :: c) + s) (hp : y.pinned = true) : EvK B s ys (a ++ [y]) c gone := by
  obtain ⟨h1, h2⟩ := h
  simp only [evictK, if_pos hg, hp, if_true] at h1 h2
  rw [EvK, List.append_assoc, List.singleton_append]
  exact ⟨h1, by rw [h2, List.append_assoc]; rfl⟩
theorem EvK.drop {B s : Int} {ys a c : List Kept} {y : Kept} {gone : List Own} (h : EvK B s ys a (y :: c) gone) (hg : B < usedOf (a ++ y :: c) + s) (hp : y.pinned = false) : EvK B s ys a c (gone ++ [y.key]) := by
  obtain ⟨h1, h2⟩ := h
  simp only [evictK, if_pos hg, hp, Bool.false_eq_true, if_false] at h1 h2
  have e : usedOf (a ++ y :: c) + s - y.size = usedOf (a ++ c) + s := by
    simp only [usedOf_append, usedOf_cons]; omega
  rw [e] at h1 h2
  exact ⟨by rw [h1, List.append_assoc]; rfl, h2⟩
theorem EvK.done {B s : Int} {ys a c : List Kept} {gone : List Own} (h : EvK B s ys a c gone) (hg : ¬ B < usedOf (a ++ c) + s ∨ c = []) : (evictK B (usedOf ys + s) ys).1 = gone ∧ (evictK B (usedOf ys + s) ys).2 = a ++ c := by
  obtain ⟨h1, h2⟩ := h
  have : evictK B (usedOf (a ++ c) + s) c = ([], c) := by
    rcases hg with hg | rfl
    · cases c with
      | nil => rfl
      | cons p r => simp only [evictK, if_neg hg]
    · rfl
  rw [this] at h1 h2
  exact ⟨by simpa using h1, h2⟩

theorem KeptAt.snoc {w : World} {base : Nat} {v : Value} {ks : List Kept} {x : Kept} (h : w.ownsRow base 55 6 v (ks.length + 1) (keptCells ks ++ keptCells [x])) : KeptAt w base v (ks ++ [x]) := by
  show w.ownsRow base 55 6 v (ks ++ [x]).length (keptCells (ks ++ [x]))
  rw [keptCells_append, List.length_append]
  exact h

theorem KeptAt.snoc' {w : World} {base n : Nat} {v : Value} {ks : List Kept} {x : Kept} (h : w.ownsRow base 55 6 v n (keptCells ks ++ keptCells [x])) (hn : n = ks.length + 1) : KeptAt w base v (ks ++ [x]) := by
  subst hn; exact KeptAt.snoc h

/-- The new element of the reference, in a block of its own. -/
def RX (w : World) (X : Nat) (x : Kept) : Prop := w.heap[X]? = some (.cells (keptRow x) 55 (0, 0))
theorem RX.cells {w : World} {X : Nat} {x : Kept} (h : RX w X x) :
    w.cell? ⟨X, 0, none⟩ = some (.int .i64 x.key.f) ∧ w.cell? ⟨X, 1, none⟩ = some (.int .i64 x.key.k) ∧ w.cell? ⟨X, 2, none⟩ = some (.int .i64 x.key.n) ∧ w.cell? ⟨X, 3, none⟩ = some (.int .i64 x.key.r) ∧
    w.cell? ⟨X, 4, none⟩ = some (.int .i64 x.size) ∧ w.cell? ⟨X, 5, none⟩ = some (.bool x.pinned) := by
  refine ⟨?_, ?_, ?_, ?_, ?_, ?_⟩ <;> (rw [show ∀ j, (⟨X, j, none⟩ : Addr) = at_ X j from fun _ => rfl, cell_of_blk h]; rfl)

/-- What 'Put' of the reference leaves where it keeps. -/
def RPutOK (w : World) (br : Nat) (B : Int) (v : Value) (ys : List Kept) (x : Kept) (e : Ending) (w' : World) : Prop :=
  ∃ out u, e = .returned (.tuple #[out, .int .i64 0]) ∧ KeysAt w' w.heap.size out (evictK B (usedOf ys + x.size) ys).1 ∧
    RRep w' br B u ((evictK B (usedOf ys + x.size) ys).2 ++ [x]) ∧ Ext (RFoot br v) w w' ∧ (∀ k, u.ownBlock = some k → w.heap.size ≤ k ∨ v.ownBlock = some k)

/-- The loop of 'Put' of the reference. -/
structure RLoop (w wr : World) (br X : Nat) (B s : Int) (v : Value) (ys a c : List Kept) (gone : List Own) (u out : Value) (x : Kept) : Prop where
  ev : EvK B s ys a c gone
  rep : RRep wr br B u (a ++ c)
  keys : KeysAt wr (X + 1) out gone
  row : RX wr X x
  ext : Ext (RFoot br v) w wr
  own : ∀ k, u.ownBlock = some k → k ≠ X ∧ (w.heap.size ≤ k ∨ v.ownBlock = some k) ∧ out.ownBlock ≠ some k
  big : w.heap.size ≤ X
  old : br < w.heap.size
  size : ∀ y ∈ a ++ c, 0 ≤ y.size ∧ y.size ≤ 65536
  few : gone.length + (a ++ c).length ≤ 1000000
  used : usedOf (a ++ c) ≤ 1073741824

theorem RLoop.keep {w wr : World} {br X : Nat} {B s : Int} {v u out : Value} {ys a c : List Kept} {y x : Kept} {gone : List Own} (h : RLoop w wr br X B s v ys a (y :: c) gone u out x) (hg : B < usedOf (a ++ y :: c) + s) (hp : y.pinned = true) :
    RLoop w wr br X B s v ys (a ++ [y]) c gone u out x := by
  have e : a ++ [y] ++ c = a ++ y :: c := by simp
  exact ⟨h.ev.keep hg hp, by rw [e]; exact h.rep, h.keys, h.row, h.ext, h.own, h.big, h.old, by rw [e]; exact h.size, by rw [e]; exact h.few, by rw [e]; exact h.used⟩

theorem KeysAt.grown {w w' : World} {base : Nat} {v : Value} {ks : List Own} (h : KeysAt w base v ks) {row : Option Nat} (hg : w.grownBy w' row) (hr : ∀ k, v.ownBlock = some k → row ≠ some k) : KeysAt w' base v ks := by
  obtain ⟨h1, h2⟩ := h
  refine ⟨h1, h2.imp id ?_⟩
  rintro ⟨g, cap, cur, hv, hb, hh, rest⟩
  exact ⟨g, cap, cur, hv, hb, (hg.block g (lt_of_heap hh) (fun e => hr g (by rw [hv]; rfl) e.symm)).trans hh, rest⟩

/-- Behind the append of a key. -/
theorem RLoop.app {w wr w1 : World} {br X : Nat} {B s : Int} {v u out : Value} {ys a c : List Kept} {y x : Kept} {gone : List Own} {cs : Array Value} {T : TypeId} (h : RLoop w wr br X B s v ys a (y :: c) gone u out x)
    (hgr : (wr.alloc (.cells cs T)).grownBy w1 out.ownBlock) :
    RRep w1 br B u (a ++ y :: c) ∧ RX w1 X x ∧ Ext (RFoot br v) w w1 := by
  have hb : ∀ k, k < wr.heap.size → out.ownBlock ≠ some k → w1.heap[k]? = wr.heap[k]? := fun k hk ho =>
    (hgr.block k (by rw [World.size_alloc]; omega) (fun e => ho e.symm)).trans (heap_alloc_old _ _ _ hk)
  have hout : ∀ k, out.ownBlock = some k → X + 1 ≤ k := fun k hk => (KeysAt.block h.keys hk)
  have hX := lt_of_heap h.row
  have hbr := h.old
  have hbig := h.big
  have hbrl := lt_of_heap h.rep.self
  refine ⟨⟨(hb br hbrl (fun e => by have := hout br e; omega)).trans h.rep.self, ?_, h.rep.apart⟩, (hb X hX (fun e => by have := hout X e; omega)).trans h.row, ?_⟩
  · obtain ⟨l1, l2⟩ := h.rep.list
    refine ⟨l1, l2.imp id ?_⟩
    rintro ⟨g, cap, cur, hv, hb', hh, rest⟩
    exact ⟨g, cap, cur, hv, hb', (hb g (lt_of_heap hh) (h.own g (by rw [hv]; rfl)).2.2).trans hh, rest⟩
  · exact (h.ext.alloc _).grown hgr fun k hk hl => by have := hout k hk; omega

theorem RLoop.drop {w wr w1 w2 : World} {br X : Nat} {B s : Int} {v u u2 out out' : Value} {ys a c : List Kept} {y x : Kept} {gone : List Own} (h : RLoop w wr br X B s v ys a (y :: c) gone u out x) (hg : B < usedOf (a ++ y :: c) + s) (hp : y.pinned = false)
    (r1 : RRep w1 br B u (a ++ y :: c)) (x1 : RX w1 X x) (e1 : Ext (RFoot br v) w w1) (hk : KeysAt w1 (X + 1) out' (gone ++ [y.key])) (hE : Ext Nope w1 w2) (hu : KeptAt w2 w1.heap.size u2 (a ++ c)) :
    RLoop w (w2.setCell ⟨br, 2, none⟩ u2) br X B s v ys a c (gone ++ [y.key]) u2 out' x := by
  obtain ⟨q1, q2⟩ := r1.relist hE hu
  have hob := h.old
  have hbig := h.big
  have hout : ∀ k, out'.ownBlock = some k → X + 1 ≤ k ∧ k < w1.heap.size := fun k hk' => hk.lt k hk'
  have hne : ∀ k, u2.ownBlock = some k → w1.heap.size ≤ k := fun k hk' => (hu.lt k hk').1
  have hX := lt_of_heap x1
  have hew := e1.size
  have hsum : usedOf (a ++ y :: c) = usedOf (a ++ c) + y.size := by simp only [usedOf_append, usedOf_cons]; omega
  have hy := h.size y (by simp)
  have hus := h.used
  have hf := h.few
  refine ⟨h.ev.drop hg hp, q1, ?_, ?_, ?_, fun k hk' => ⟨?_, .inl ?_, ?_⟩, h.big, h.old, fun z hz => h.size z ?_, ?_, ?_⟩
  · have : KeysAt w2 (X + 1) out' (gone ++ [y.key]) := hk.ext hE (fun _ _ z => z)
    refine this.ext (S := fun k => k = br) ((Ext.refl (fun k => k = br) _).setCell br 2 (fun _ => rfl) _) fun k hk1 hk2 => ?_
    omega
  · refine (heap_setCell_ne _ _ _ _ _ (by omega)).trans ((hE.block X hX (fun z => z)).trans x1)
  · exact (e1.trans hE (fun _ _ z => z.elim)).setCell br 2 (fun _ => .inl rfl) _
  · have := hne k hk'; omega
  · have := hne k hk'; omega
  · intro e; have := hne k hk'; have := (hout k e).2; omega
  · simp only [List.mem_append, List.mem_cons] at hz ⊢; rcases hz with h | h <;> simp [h]
  · simp only [List.length_append, List.length_cons, List.length_nil] at hf ⊢; omega
  · omega

/-- The end: the new element is appended. -/
theorem RLoop.finish {w wr w4 : World} {br X : Nat} {B s : Int} {v u u4 out : Value} {ys a c : List Kept} {x : Kept} {gone : List Own} {cs : Array Value} {T : TypeId} {n : Nat} (h : RLoop w wr br X B s v ys a c gone u out x) (hs : x.size = s) (hd : ¬ B < usedOf (a ++ c) + s ∨ c = [])
    (hgr : ((wr.alloc (.cells cs T)).drewN n).grownBy w4 u.ownBlock) (hl : ∀ k, u4.ownBlock = some k → u.ownBlock = some k ∨ k = wr.heap.size + 1) (hu : KeptAt w4 0 u4 (a ++ c ++ [x])) :
    RPutOK w br B v ys x (.returned (.tuple #[out, .int .i64 0])) (w4.setCell ⟨br, 2, none⟩ u4) := by
  obtain ⟨d1, d2⟩ := h.ev.done hd
  subst hs
  have hb : ∀ k, k < wr.heap.size → u.ownBlock ≠ some k → w4.heap[k]? = wr.heap[k]? := fun k hk ho =>
    (hgr.block k (by show k < (wr.alloc _).heap.size; rw [World.size_alloc]; omega) (fun e => ho e.symm)).trans (heap_alloc_old wr _ _ hk)
  have hbrl := lt_of_heap h.rep.self
  have hbig := h.big
  have hob := h.old
  have hew := h.ext.size
  have hs4 : w4.heap[br]? = some (.cells #[.bool true, .int .i64 B, u] 53 (0, 0)) := (hb br hbrl h.rep.apart).trans h.rep.self
  have hou : ∀ k, u4.ownBlock = some k → w.heap.size ≤ k ∨ v.ownBlock = some k := fun k hk => by
    rcases hl k hk with e | e
    · exact (h.own k e).2.1
    · left; omega
  have hex4 : Ext (RFoot br v) w w4 := by
    refine ((h.ext.alloc _).drewN _).grown hgr fun k hk hlt => ?_
    rcases (h.own k hk).2.1 with e | e
    · omega
    · exact .inr e
  have hubr : u4.ownBlock ≠ some br := fun e => by
    rcases hl br e with e | e
    · exact h.rep.apart e
    · omega
  refine ⟨out, u4, rfl, ?_, ⟨?_, ?_, hubr⟩, hex4.setCell br 2 (fun _ => .inl rfl) _, hou⟩
  · rw [d1]
    have k1 : KeysAt w4 (X + 1) out gone := by
      have k0 := h.keys
      obtain ⟨l1, l2⟩ := k0
      refine ⟨l1, l2.imp id ?_⟩
      rintro ⟨g, cap, cur, hv, hb', hh, rest⟩
      exact ⟨g, cap, cur, hv, hb', (hb g (lt_of_heap hh) (fun e => (h.own g e).2.2 (by rw [hv]; rfl))).trans hh, rest⟩
    refine (k1.ext (S := fun k => k = br) ((Ext.refl (fun k => k = br) _).setCell br 2 (fun _ => rfl) _) fun k hk1 hk2 => ?_).mono (by omega)
    omega
  · rw [show (⟨br, 2, none⟩ : Addr) = at_ br 2 from rfl, heap_setCell_eq _ _ _ _ _ _ _ hs4]; rfl
  · rw [d2]
    obtain ⟨l1, l2⟩ := hu
    refine ⟨l1, l2.imp id ?_⟩
    rintro ⟨g, cap, cur, hv, hb', hh, rest⟩
    exact ⟨g, cap, cur, hv, hb', (heap_setCell_ne _ _ _ _ _ (fun e => hubr (by rw [hv, ← e]; rfl))).trans hh, rest⟩

end Go.Proofs.Ytkloaadaicklfaa
