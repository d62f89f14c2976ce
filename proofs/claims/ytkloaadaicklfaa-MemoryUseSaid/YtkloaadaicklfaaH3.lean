/-
  The last steps of 'Put', told of worlds: a new element comes to the ring's end, the map has it, the sums have grown.
-/
import Derived.Test.YtkloaadaicklfaaW8
namespace Go.Proofs.Ytkloaadaicklfaa
open Go.RowKit

theorem alloc_drewN (w : World) (n : Nat) (o : Obj) : (w.drewN n).alloc o = (w.alloc o).drewN n := rfl
theorem setCell_drewN (w : World) (n : Nat) (a : Addr) (v : Value) : (w.drewN n).setCell a v = (w.setCell a v).drewN n := rfl

abbrev elemRow (o : Own) (s : Int) (pin : Bool) : Array Value :=
  #[.int .i64 o.f, .int .i64 o.k, .int .i64 o.n, .int .i64 o.r, .int .i64 s, .bool pin, .pointer none, .pointer none]

theorem finish1 {w : World} {bm bh bk : Nat} {B : Int} {es : List (Nat × Kept)} (h : MRep w bm bh bk B es) (o : Own) (s : Int) (pin : Bool) (n : Nat) :
    Calls Try.prog 29 #[ptr w.heap.size, ptr bh] ((w.alloc (.cells (elemRow o s pin) 78)).drewN n) fun e w' => e = .returned (.tuple #[]) ∧
      Ring w' bh (es ++ [(w.heap.size, ⟨o, s, pin⟩)]) ∧ (∀ b, b < w.heap.size → b ∉ bh :: blks es → w'.heap[b]? = w.heap[b]?) ∧
      w'.os = w.os ∧ w'.tape = w.tape ∧ w'.output = w.output ∧ w'.heap.size = w.heap.size + 1 := by
  obtain ⟨w5, hw5⟩ : ∃ w5, (w.alloc (.cells (elemRow o s pin) 78)).drewN n = w5 := ⟨_, rfl⟩
  have hb : ∀ b, b < w.heap.size → w5.heap[b]? = w.heap[b]? := fun b hb => by rw [← hw5]; exact heap_alloc_old w _ _ hb
  have hE : w5.heap[w.heap.size]? = some (.cells (elemRow o s pin) 78 (0, 0)) := by rw [← hw5]; exact heap_alloc_new w _
  have hos : w5.os = w.os ∧ w5.tape = w.tape ∧ w5.output = w.output ∧ w5.heap.size = w.heap.size + 1 := by rw [← hw5]; exact ⟨rfl, rfl, rfl, World.size_alloc _ _⟩
  rw [hw5]
  clear hw5
  have hlt : ∀ b ∈ bh :: blks es, b < w.heap.size := fun b hb => (h.ring.rows b hb).lt
  have hR : Ring w5 bh es := h.ring.of fun b hb' => hb b (hlt b hb')
  have hrow : Row w5 w.heap.size 8 78 := ⟨_, hE, rfl⟩
  have hv : ElemVal w5 w.heap.size ⟨o, s, pin⟩ := by
    refine ⟨?_, ?_, ?_, ?_, ?_, ?_⟩ <;> (rw [cell_of_blk hE]; rfl)
  have hni : w.heap.size ∉ bh :: blks es := fun hx => Nat.lt_irrefl _ (hlt _ hx)
  refine (last_rep hR hrow hni).mono ?_
  rintro e w' ⟨rfl, m, rfl⟩
  refine ⟨rfl, (hR.last hrow hv hni).of fun _ _ => rfl, fun b hb1 hb2 => ?_, hos.1, hos.2.1, hos.2.2.1, ?_⟩
  · refine (lastW_heap (w := w5) (by omega) (fun e => hb2 (by simp [e])) (fun e => hb2 (by rw [e]; exact prevOf_mem bh es))).trans (hb b hb1)
  · show (lastW w5 _ _ _).heap.size = _
    simp [lastW, hos.2.2.2]

/-- The sums behind 'Put'. -/
def sumW (w : World) (bm : Nat) (u q s : Int) (pin : Bool) : World :=
  if pin then (w.setCell (at_ bm 1) (.int .i64 (u + s))).setCell (at_ bm 2) (.int .i64 (q + s)) else w.setCell (at_ bm 1) (.int .i64 (u + s))

theorem sumW_heap {w : World} {bm b : Nat} {u q s : Int} {pin : Bool} (h : b ≠ bm) : (sumW w bm u q s pin).heap[b]? = w.heap[b]? := by
  unfold sumW
  split
  · rw [heap_setCell_ne _ _ _ _ _ h, heap_setCell_ne _ _ _ _ _ h]
  · rw [heap_setCell_ne _ _ _ _ _ h]

theorem finish2 {w w6 w7 : World} {bm bh bk E : Nat} {B : Int} {es : List (Nat × Kept)} {x : Kept} (h : MRep w bm bh bk B es) (hE : E = w.heap.size) (hk : x.key ∉ keysOf es)
    (hr : Ring w6 bh (es ++ [(E, x)])) (hb : ∀ b, b < w.heap.size → b ∉ bh :: blks es → w6.heap[b]? = w.heap[b]?) (ho : w6.os = w.os ∧ w6.tape = w.tape ∧ w6.output = w.output ∧ w6.heap.size = w.heap.size + 1)
    {m : List (Own × Value)} (hmg : ∀ o v, mget m o = some v ↔ ∃ q ∈ es, q.2.key = o ∧ v = ptr q.1) (hmn : (m.map (·.1)).Nodup) (hm : MapAs w7 bk (mput m x.key (ptr E)))
    (hb7 : ∀ b, b ≠ bk → w7.heap[b]? = w6.heap[b]?) (ho7 : w7.os = w6.os ∧ w7.tape = w6.tape ∧ w7.output = w6.output ∧ w7.heap.size = w6.heap.size) (n : Nat) :
    MRep ((sumW w7 bm (usedOf (kepts es)) (pinnedOf (kepts es)) x.size x.pinned).drewN n) bm bh bk B (es ++ [(E, x)]) ∧
    Ext (Foot bm bh bk es) w ((sumW w7 bm (usedOf (kepts es)) (pinnedOf (kepts es)) x.size x.pinned).drewN n) := by
  obtain ⟨a1, a2, a3, a4, a5⟩ := h.apart
  have hmlt : bm < w.heap.size := h.lt (.inl rfl)
  have hklt : bk < w.heap.size := h.lt (.inr (.inr (.inl rfl)))
  have hmn' : bm ∉ bh :: blks es := by
    intro hx
    rcases List.mem_cons.1 hx with hx | hx
    · exact a2 hx
    · obtain ⟨y, hy, hy2⟩ := List.mem_map.1 hx
      exact a4 y hy hy2
  have hs7 : w7.heap[bm]? = some (.cells #[.int .i64 B, .int .i64 (usedOf (kepts es)), .int .i64 (pinnedOf (kepts es)), ptr bh, .map (some bk)] 65 (0, 0)) :=
    (hb7 bm a1).trans ((hb bm hmlt hmn').trans h.self)
  have hself : (sumW w7 bm (usedOf (kepts es)) (pinnedOf (kepts es)) x.size x.pinned).heap[bm]? = some (.cells #[.int .i64 B, .int .i64 (usedOf (kepts (es ++ [(E, x)]))), .int .i64 (pinnedOf (kepts (es ++ [(E, x)]))), ptr bh, .map (some bk)] 65 (0, 0)) := by
    have e1 : usedOf (kepts (es ++ [(E, x)])) = usedOf (kepts es) + x.size := by simp [kepts, usedOf]
    have e2 : pinnedOf (kepts (es ++ [(E, x)])) = pinnedOf (kepts es) + pinOf x := by simp [kepts, pinnedOf]
    rw [e1, e2]
    unfold sumW pinOf
    split
    · rw [heap_setCell_eq _ _ _ _ _ _ _ (heap_setCell_eq _ _ _ _ _ _ _ hs7)]; rfl
    · rw [heap_setCell_eq _ _ _ _ _ _ _ hs7, Int.add_zero]; rfl
  have hoo : (sumW w7 bm (usedOf (kepts es)) (pinnedOf (kepts es)) x.size x.pinned).os = w7.os ∧ (sumW w7 bm (usedOf (kepts es)) (pinnedOf (kepts es)) x.size x.pinned).tape = w7.tape ∧ (sumW w7 bm (usedOf (kepts es)) (pinnedOf (kepts es)) x.size x.pinned).output = w7.output ∧ (sumW w7 bm (usedOf (kepts es)) (pinnedOf (kepts es)) x.size x.pinned).heap.size = w7.heap.size := by
    unfold sumW; split <;> exact ⟨rfl, rfl, rfl, by simp⟩
  have hel : ∀ b, b ≠ bm → b ≠ bk → (sumW w7 bm (usedOf (kepts es)) (pinnedOf (kepts es)) x.size x.pinned).heap[b]? = w6.heap[b]? := fun b h1 h2 => (sumW_heap h1).trans (hb7 b h2)
  have hmap : MapAs (sumW w7 bm (usedOf (kepts es)) (pinnedOf (kepts es)) x.size x.pinned) bk (mput m x.key (ptr E)) := hm.of (sumW_heap (fun e => a1 e.symm))
  generalize sumW w7 bm (usedOf (kepts es)) (pinnedOf (kepts es)) x.size x.pinned = W at *
  refine ⟨⟨⟨a1, a2, a3, ?_, ?_⟩, hself, hr.of fun b hb' => hel b ?_ ?_, Index.put hmg hmn hk hmap, ?_⟩, ⟨?_, ?_, ?_, ?_, ?_⟩⟩
  · intro q hq
    rcases List.mem_append.1 hq with hq | hq
    · exact a4 q hq
    · simp only [List.mem_singleton] at hq; subst hq; intro e; simp only at e; omega
  · intro q hq
    rcases List.mem_append.1 hq with hq | hq
    · exact a5 q hq
    · simp only [List.mem_singleton] at hq; subst hq; intro e; simp only at e; omega
  · rintro rfl
    rw [show bh :: blks (es ++ [(E, x)]) = (bh :: blks es) ++ [E] from by simp, List.mem_append] at hb'
    rcases hb' with hb' | hb'
    · exact hmn' hb'
    · simp only [List.mem_singleton] at hb'; omega
  · rintro rfl
    rw [show bh :: blks (es ++ [(E, x)]) = (bh :: blks es) ++ [E] from by simp, List.mem_append] at hb'
    rcases hb' with hb' | hb'
    · rcases List.mem_cons.1 hb' with hx | hx
      · exact a3 hx
      · obtain ⟨y, hy, hy2⟩ := List.mem_map.1 hx
        exact a5 y hy hy2
    · simp only [List.mem_singleton] at hb'; omega
  · have := h.keys
    simp only [keysOf, List.map_append, List.map_cons, List.map_nil] at this ⊢
    rw [List.nodup_append]
    refine ⟨this, by simp, ?_⟩
    intro a ha b hb
    simp only [List.mem_singleton] at hb
    subst hb
    rintro rfl; exact hk ha
  · exact hoo.1.trans (ho7.1.trans ho.1)
  · exact hoo.2.1.trans (ho7.2.1.trans ho.2.1)
  · exact hoo.2.2.1.trans (ho7.2.2.1.trans ho.2.2.1)
  · show w.heap.size ≤ W.heap.size
    rw [hoo.2.2.2, ho7.2.2.2, ho.2.2.2]; omega
  · intro b hlt hf
    refine (hel b (fun e => hf (.inl e)) (fun e => hf (.inr (.inr (.inl e))))).trans (hb b hlt fun hx => hf ?_)
    rcases List.mem_cons.1 hx with hx | hx
    · exact .inr (.inl hx)
    · exact .inr (.inr (.inr hx))

theorem evict_nil (B u : Int) : evict B u [] = ([], []) := rfl
theorem evict_stop {B u : Int} (h : ¬ B < u) (c : List (Nat × Kept)) : evict B u c = ([], c) := by
  cases c with
  | nil => rfl
  | cons p r => simp only [evict, if_neg h]
theorem evict_pin {B u : Int} (h : B < u) (p : Nat × Kept) (hp : p.2.pinned = true) (c : List (Nat × Kept)) : evict B u (p :: c) = ((evict B u c).1, p :: (evict B u c).2) := by
  simp only [evict, if_pos h, hp, if_true]
theorem evict_go {B u : Int} (h : B < u) (p : Nat × Kept) (hp : p.2.pinned = false) (c : List (Nat × Kept)) : evict B u (p :: c) = (p.2.key :: (evict B (u - p.2.size) c).1, (evict B (u - p.2.size) c).2) := by
  simp only [evict, if_pos h, hp, Bool.false_eq_true, if_false]

theorem KeysAt.ext {w w' : World} {base : Nat} {v : Value} {ks : List Own} (h : KeysAt w base v ks) {S : Nat → Prop} (he : Ext S w w') (hs : ∀ k, base ≤ k → ¬ S k) : KeysAt w' base v ks := by
  obtain ⟨h1, h2⟩ := h
  refine ⟨h1, h2.imp id ?_⟩
  rintro ⟨g, cap, cur, hv, hb, hg, rest⟩
  exact ⟨g, cap, cur, hv, hb, (he.block g (lt_of_heap hg) (hs g hb)).trans hg, rest⟩
theorem KeysAt.mono {w : World} {base base' : Nat} {v : Value} {ks : List Own} (h : KeysAt w base v ks) (hb : base' ≤ base) : KeysAt w base' v ks := by
  obtain ⟨h1, h2⟩ := h
  refine ⟨h1, h2.imp id ?_⟩
  rintro ⟨g, cap, cur, hv, hg, rest⟩
  exact ⟨g, cap, cur, hv, Nat.le_trans hb hg, rest⟩
theorem KeysAt.block {w : World} {base : Nat} {v : Value} {ks : List Own} (h : KeysAt w base v ks) {k : Nat} (hk : v.ownBlock = some k) : base ≤ k := (h.lt k hk).1
theorem KeysAt.snoc {w : World} {base : Nat} {v : Value} {ks : List Own} {o : Own} (h : w.ownsRow base 34 4 v (ks.length + 1) (keyCells ks ++ keyCells [o])) : KeysAt w base v (ks ++ [o]) := by
  show w.ownsRow base 34 4 v (ks ++ [o]).length (keyCells (ks ++ [o]))
  rw [keyCells_append, List.length_append]
  exact h
theorem keyCells_at {w : World} {b : Nat} {o : Own} {T : TypeId} {fz : Nat × Nat} (h : w.heap[b]? = some (.cells (ownCells o) T fz)) : ∀ (j : Nat) (u : Value), (keyCells [o])[j]? = some u → w.cell? (Addr.add ⟨b, 0, none⟩ j) = some u := by
  intro j u hj
  rw [keyCells_one] at hj
  have hc := fun i => cell_of_blk h i
  match j, hj with
  | 0, hj => rw [show Addr.add ⟨b, 0, none⟩ 0 = at_ b 0 from rfl, hc]; exact hj
  | 1, hj => rw [show Addr.add ⟨b, 0, none⟩ 1 = at_ b 1 from rfl, hc]; exact hj
  | 2, hj => rw [show Addr.add ⟨b, 0, none⟩ 2 = at_ b 2 from rfl, hc]; exact hj
  | 3, hj => rw [show Addr.add ⟨b, 0, none⟩ 3 = at_ b 3 from rfl, hc]; exact hj
theorem keyCells_oneCell (o : Own) : ∀ u ∈ keyCells [o], u.oneCell' = true := by
  intro u hu
  rw [keyCells_one] at hu
  simp at hu
  rcases hu with rfl | rfl | rfl | rfl <;> rfl
theorem foot_lt {w : World} {bm bh bk : Nat} {B : Int} {es sub : List (Nat × Kept)} (h : MRep w bm bh bk B es) (hs : ∀ x ∈ sub, x ∈ es) {b : Nat} (hb : Foot bm bh bk sub b) : b < w.heap.size := by
  refine h.lt ?_
  rcases hb with hb | hb | hb | hb
  · exact .inl hb
  · exact .inr (.inl hb)
  · exact .inr (.inr (.inl hb))
  · obtain ⟨y, hy, rfl⟩ := List.mem_map.1 hb
    exact .inr (.inr (.inr (List.mem_map_of_mem (hs y hy))))
theorem foot_sub {bm bh bk : Nat} {es sub : List (Nat × Kept)} (hs : ∀ x ∈ sub, x ∈ es) {b : Nat} (hb : Foot bm bh bk sub b) : Foot bm bh bk es b := by
  rcases hb with hb | hb | hb | hb
  · exact .inl hb
  · exact .inr (.inl hb)
  · exact .inr (.inr (.inl hb))
  · obtain ⟨y, hy, rfl⟩ := List.mem_map.1 hb
    exact .inr (.inr (.inr (List.mem_map_of_mem (hs y hy))))
theorem XRow.ext {w w' : World} {X : Nat} {o : Own} {s : Int} {pin : Bool} (h : XRow w X o s pin) {S : Nat → Prop} (he : Ext S w w') (hs : ¬ S X) : XRow w' X o s pin := (he.block X (lt_of_heap h) hs).trans h
theorem BRow.ext {w w' : World} {X : Nat} {o : Own} (h : BRow w X o) {S : Nat → Prop} (he : Ext S w w') (hs : ¬ S X) : BRow w' X o := (he.block X (lt_of_heap h) hs).trans h
theorem BRow.cells {w : World} {X : Nat} {o : Own} (h : BRow w X o) :
    w.cell? ⟨X, 0, none⟩ = some (.int .i64 o.f) ∧ w.cell? ⟨X, 1, none⟩ = some (.int .i64 o.k) ∧ w.cell? ⟨X, 2, none⟩ = some (.int .i64 o.n) ∧ w.cell? ⟨X, 3, none⟩ = some (.int .i64 o.r) := by
  refine ⟨?_, ?_, ?_, ?_⟩ <;> (rw [show ∀ j, (⟨X, j, none⟩ : Addr) = at_ X j from fun _ => rfl, cell_of_blk h]; rfl)

/-- What the loop of 'Put' still has to do, and what it has done. -/
def EvRel (B s : Int) (es a c : List (Nat × Kept)) (gone : List Own) : Prop :=
  (evict B (usedOf (kepts es) + s) es).1 = gone ++ (evict B (usedOf (kepts (a ++ c)) + s) c).1 ∧ (evict B (usedOf (kepts es) + s) es).2 = a ++ (evict B (usedOf (kepts (a ++ c)) + s) c).2

theorem EvRel.keep {B s : Int} {es a c : List (Nat × Kept)} {y : Nat × Kept} {gone : List Own} (h : EvRel B s es a (y :: c) gone) (hg : B < usedOf (kepts (a ++ y :: c)) + s) (hp : y.2.pinned = true) : EvRel B s es (a ++ [y]) c gone := by
  obtain ⟨h1, h2⟩ := h
  rw [evict_pin hg y hp] at h1 h2
  rw [EvRel, List.append_assoc, List.singleton_append]
  exact ⟨h1, by rw [h2, List.append_assoc]; rfl⟩
theorem EvRel.drop {B s : Int} {es a c : List (Nat × Kept)} {y : Nat × Kept} {gone : List Own} (h : EvRel B s es a (y :: c) gone) (hg : B < usedOf (kepts (a ++ y :: c)) + s) (hp : y.2.pinned = false) : EvRel B s es a c (gone ++ [y.2.key]) := by
  obtain ⟨h1, h2⟩ := h
  rw [evict_go hg y hp] at h1 h2
  have e : usedOf (kepts (a ++ y :: c)) + s - y.2.size = usedOf (kepts (a ++ c)) + s := by
    simp only [kepts, List.map_append, List.map_cons, usedOf_append, usedOf_cons]; omega
  rw [e] at h1 h2
  exact ⟨by rw [h1, List.append_assoc]; rfl, h2⟩
theorem EvRel.done {B s : Int} {es a c : List (Nat × Kept)} {gone : List Own} (h : EvRel B s es a c gone) (hg : ¬ B < usedOf (kepts (a ++ c)) + s ∨ c = []) : (evict B (usedOf (kepts es) + s) es).1 = gone ∧ (evict B (usedOf (kepts es) + s) es).2 = a ++ c := by
  obtain ⟨h1, h2⟩ := h
  have : evict B (usedOf (kepts (a ++ c)) + s) c = ([], c) := by
    rcases hg with hg | rfl
    · exact evict_stop hg c
    · rfl
  rw [this] at h1 h2
  exact ⟨by simpa using h1, h2⟩

/-- What 'Put' leaves where it keeps: es0: what was kept under other keys; es: what was kept. -/
def PutOK (w : World) (bm bh bk : Nat) (B : Int) (es0 es : List (Nat × Kept)) (x : Kept) (e : Ending) (w' : World) : Prop :=
  ∃ v E, e = .returned (.tuple #[v, .int .i64 0]) ∧ KeysAt w' w.heap.size v (evict B (usedOf (kepts es0) + x.size) es0).1 ∧
      MRep w' bm bh bk B ((evict B (usedOf (kepts es0) + x.size) es0).2 ++ [(E, x)]) ∧ w.heap.size ≤ E ∧ Ext (Foot bm bh bk es) w w'

theorem PutOK.mk {w wr W : World} {bm bh bk : Nat} {B s : Int} {es0 es ac : List (Nat × Kept)} {gone : List Own} {o : Own} {pin : Bool} {v : Value} (hd1 : (evict B (usedOf (kepts es0) + s) es0).1 = gone) (hd2 : (evict B (usedOf (kepts es0) + s) es0).2 = ac)
    (hk : KeysAt wr (w.heap.size + 2) v gone) (h : MRep W bm bh bk B (ac ++ [(wr.heap.size, ⟨o, s, pin⟩)])) (hx : Ext (Foot bm bh bk ac) wr W) (hE : Ext (Foot bm bh bk es) w wr) (hf : ∀ k, Foot bm bh bk ac k → Foot bm bh bk es k ∧ k < w.heap.size) :
    PutOK w bm bh bk B es0 es ⟨o, s, pin⟩ (.returned (.tuple #[v, .int .i64 0])) W := by
  refine ⟨v, wr.heap.size, rfl, ?_, ?_, hE.size, hE.trans hx fun i _ hi => (hf i hi).1⟩
  · rw [hd1]
    exact (hk.ext hx fun k hk1 hk2 => by have := (hf k hk2).2; omega).mono (by omega)
  · rw [hd2]; exact h

end Go.Proofs.Ytkloaadaicklfaa
