/-
  Plain laws on the heap: blocks, cells, and what a call may have turned. No program is named here.
-/
import Derived.WalkKit
import Derived.Deep.Draws
import Derived.Lib.Hide
import Derived.OwnWalk
import Derived.Deep.AppendLies
import Derived.IntWalk
namespace Go.Proofs.YtmmcadbkmfjcbaaDoor
open Go.RowKit

abbrev ptr (b : Nat) : Value := .pointer (some ⟨b, 0, none⟩)
abbrev at_ (b o : Nat) : Addr := ⟨b, o, none⟩

theorem heap_setCell_ne (w : World) (b o k : Nat) (u : Value) (h : k ≠ b) : (w.setCell (at_ b o) u).heap[k]? = w.heap[k]? :=
  Below.heap_setCell w (at_ b o) u k h

theorem heap_setCell_eq (w : World) (b o : Nat) (u : Value) (cs : Array Value) (T : TypeId) (fz : Nat × Nat) (h : w.heap[b]? = some (.cells cs T fz)) :
    (w.setCell (at_ b o) u).heap[b]? = some (.cells (cs.setIfInBounds o u) T fz) := by
  simp [World.setCell, Array.getElem?_modify, h]

theorem cell_of_blk {w : World} {b : Nat} {cs : Array Value} {T : TypeId} {fz : Nat × Nat} (h : w.heap[b]? = some (.cells cs T fz)) (o : Nat) :
    w.cell? (at_ b o) = cs[o]? := by simp [World.cell?, h]

theorem free_of_blk {w : World} {b : Nat} {cs : Array Value} {T : TypeId} (h : w.heap[b]? = some (.cells cs T (0, 0))) (o : Nat) :
    w.frozen? (at_ b o) = false := by simp [World.frozen?, h]

theorem lt_of_heap {w : World} {b : Nat} {o : Obj} (h : w.heap[b]? = some o) : b < w.heap.size := by
  rcases Nat.lt_or_ge b w.heap.size with h' | h'
  · exact h'
  · simp [Array.getElem?_eq_none h'] at h

theorem heap_alloc_new (w : World) (o : Obj) : (w.alloc o).heap[w.heap.size]? = some o := by
  show (w.heap.push o)[w.heap.size]? = some o
  simp
theorem heap_alloc_old (w : World) (o : Obj) (k : Nat) (h : k < w.heap.size) : (w.alloc o).heap[k]? = w.heap[k]? := Below.heap_alloc w o k h

/-- What a call may have turned: only blocks in S, and what is new. -/
structure Ext (S : Nat → Prop) (w w' : World) : Prop where
  os : w'.os = w.os
  tape : w'.tape = w.tape
  output : w'.output = w.output
  size : w.heap.size ≤ w'.heap.size
  block : ∀ k, k < w.heap.size → ¬ S k → w'.heap[k]? = w.heap[k]?

theorem Ext.refl (S : Nat → Prop) (w : World) : Ext S w w := ⟨rfl, rfl, rfl, Nat.le_refl _, fun _ _ _ => rfl⟩
theorem Ext.trans {S S' : Nat → Prop} {a b c : World} (h : Ext S a b) (k : Ext S' b c) (hs : ∀ i, i < a.heap.size → S' i → S i) : Ext S a c :=
  ⟨k.os.trans h.os, k.tape.trans h.tape, k.output.trans h.output, Nat.le_trans h.size k.size,
   fun i hi hn => (k.block i (Nat.lt_of_lt_of_le hi h.size) (fun hk => hn (hs i hi hk))).trans (h.block i hi hn)⟩
theorem Ext.mono {S S' : Nat → Prop} {a b : World} (h : Ext S a b) (hs : ∀ i, S i → S' i) : Ext S' a b :=
  ⟨h.os, h.tape, h.output, h.size, fun i hi hn => h.block i hi (fun hk => hn (hs i hk))⟩
theorem Ext.drew {S : Nat → Prop} {a b : World} (h : Ext S a b) : Ext S a b.drew := ⟨h.os, h.tape, h.output, h.size, h.block⟩
theorem Ext.drewN {S : Nat → Prop} {a b : World} (n : Nat) (h : Ext S a b) : Ext S a (b.drewN n) := ⟨h.os, h.tape, h.output, h.size, h.block⟩
theorem Ext.alloc {S : Nat → Prop} {a b : World} (h : Ext S a b) (o : Obj) : Ext S a (b.alloc o) :=
  ⟨h.os, h.tape, h.output, by simp; have := h.size; omega, fun i hi hn => by
    rw [heap_alloc_old _ _ _ (Nat.lt_of_lt_of_le hi h.size)]; exact h.block i hi hn⟩
theorem Ext.setCell {S : Nat → Prop} {a b : World} (h : Ext S a b) (k o : Nat) (hk : k < a.heap.size → S k) (u : Value) : Ext S a (b.setCell (at_ k o) u) :=
  ⟨h.os, h.tape, h.output, by simpa using h.size, fun i hi hn => by
    rw [heap_setCell_ne _ _ _ _ _ (fun e => by subst e; exact hn (hk hi))]; exact h.block i hi hn⟩
theorem Ext.setObj {S : Nat → Prop} {a b : World} (h : Ext S a b) (k : Nat) (o : Obj) (hk : k < a.heap.size → S k) : Ext S a { b with heap := b.heap.setIfInBounds k o } :=
  ⟨h.os, h.tape, h.output, by simpa using h.size, fun i hi hn => by
    show (b.heap.setIfInBounds k o)[i]? = _
    rw [Array.getElem?_setIfInBounds_ne (fun e => by subst e; exact hn (hk hi))]; exact h.block i hi hn⟩
theorem Ext.alike {S : Nat → Prop} {a b c : World} (h : Ext S a b) (ha : c.Alike b) (ht : c.tape = b.tape) : Ext S a c :=
  ⟨ha.2.1.trans h.os, ht.trans h.tape, ha.2.2.trans h.output, by rw [ha.1]; exact h.size, fun i hi hn => by rw [ha.1]; exact h.block i hi hn⟩

theorem cell_setCell_ne (w : World) (b o c p : Nat) (u : Value) (h : b ≠ c ∨ o ≠ p) : (w.setCell (at_ b o) u).cell? (at_ c p) = w.cell? (at_ c p) :=
  World.cell?_setCell_other _ _ _ _ (by intro e; simp only [Addr.mk.injEq, and_true] at e; omega)

def Nope : Nat → Prop := fun _ => False
theorem ext0 {S : Nat → Prop} {a b c : World} (h : Ext S a b) (k : Ext Nope b c) : Ext S a c := h.trans k (fun _ _ x => x.elim)
theorem ext1 {S : Nat → Prop} {a b c : World} (h : Ext Nope a b) (k : Ext S b c) : Ext S a c := (h.mono (fun _ x => x.elim)).trans k (fun _ _ x => x)
theorem toHid {p : Prop} (h : p) : Hid p := h
theorem alloc_drewN (w : World) (n : Nat) (o : Obj) : (w.drewN n).alloc o = (w.alloc o).drewN n := rfl
theorem setCell_drewN (w : World) (n : Nat) (a : Addr) (v : Value) : (w.drewN n).setCell a v = (w.setCell a v).drewN n := rfl
theorem Ext.grown {S : Nat → Prop} {a b c : World} {row : Option Nat} (h : Ext S a b) (hg : b.grownBy c row) (hr : ∀ k, row = some k → k < a.heap.size → S k) : Ext S a c :=
  ⟨hg.os.trans h.os, hg.tape.trans h.tape, hg.output.trans h.output, Nat.le_trans h.size hg.size, fun i hi hn =>
    (hg.block i (Nat.lt_of_lt_of_le hi h.size) (fun e => hn (hr i e.symm hi))).trans (h.block i hi hn)⟩
theorem heap_alloc_at (w : World) (o : Obj) (k : Nat) (h : k = w.heap.size) : (w.alloc o).heap[k]? = some o := by subst h; exact heap_alloc_new w o
theorem nth_split {α : Type} {xs : List α} {k : Nat} (h : k < xs.length) : ∃ y a1 a2, xs = a1 ++ y :: a2 ∧ a1.length = k :=
  ⟨xs[k], xs.take k, xs.drop (k + 1), by rw [List.getElem_cons_drop, List.take_append_drop], by rw [List.length_take]; omega⟩
theorem take_len {α : Type} {xs a b : List α} {y : α} {j : Nat} (h : xs = a ++ y :: b) (hl : a.length = j) : xs.take j = a ∧ xs.take (j + 1) = a ++ [y] := by
  subst hl
  rw [h]
  constructor
  · simp
  · rw [List.take_append, List.take_of_length_le (by omega)]; simp

theorem wpList_take {P : Program} {ops : Array Oper} {Q : Exit → Act → World → Prop} {a : Act} {w : World} {rest : List Oper} {o : Oper} (hw : Region.wanted o (yielded ops a.tmps) = true)
    (h : ∀ K : Act → World → Prop, (∀ a w, wpList P ops Q rest a w → K a w) → o.wp P a w K Q) : wpList P ops Q (o :: rest) a w :=
  wpList_step fun K hK => by rw [if_pos hw]; exact h K hK

theorem own_ext {w w' : World} {S : Nat → Prop} {base E sz n : Nat} {v : Value} {xs : List Value} (h : w.ownsRow base E sz v n xs) (e : Ext S w w') (hs : ∀ g, v.ownBlock = some g → ¬ S g) : w'.ownsRow base E sz v n xs := by
  obtain ⟨h1, h2⟩ := h
  refine ⟨h1, h2.imp id ?_⟩
  rintro ⟨g, cap, cur, hv, hb, hg, rest⟩
  exact ⟨g, cap, cur, hv, hb, (e.block g (lt_of_heap hg) (hs g (by rw [hv]; rfl))).trans hg, rest⟩
theorem own_base {w : World} {b b' E sz n : Nat} {v : Value} {xs : List Value} (h : w.ownsRow b E sz v n xs) (hb : ∀ g, v.ownBlock = some g → b' ≤ g) : w.ownsRow b' E sz v n xs := by
  obtain ⟨h1, h2⟩ := h
  refine ⟨h1, h2.imp id ?_⟩
  rintro ⟨g, cap, cur, hv, _, rest⟩
  exact ⟨g, cap, cur, hv, hb g (by rw [hv]; rfl), rest⟩
theorem own_cell {w : World} {base E sz n m cap g : Nat} {xs : List Value} (h : w.ownsRow base E sz (.slice (some ⟨g, 0, none⟩) n cap) m xs) {j : Nat} {u : Value} (hj : xs[j]? = some u) : w.cell? ⟨g, j, none⟩ = some u := by
  obtain ⟨_, ⟨hv, _⟩ | ⟨g', cap', cur, hv, _, hg, h1, h2, h3, h4⟩⟩ := h
  · cases hv
  · cases hv
    rw [show (⟨g, j, none⟩ : Addr) = at_ g j from rfl, cell_of_blk hg]
    rw [← h4, List.getElem?_take] at hj
    split at hj
    · simpa using hj
    · cases hj
theorem own_cells {w : World} {base E sz n m cap g : Nat} {xs : List Value} (h : w.ownsRow base E sz (.slice (some ⟨g, 0, none⟩) n cap) m xs) : ∀ (j : Nat) (u : Value), xs[j]? = some u → w.cell? (Addr.add ⟨g, 0, none⟩ j) = some u := by
  intro j u hj
  have hadd : Addr.add ⟨g, 0, none⟩ j = ⟨g, j, none⟩ := by unfold Addr.add; split <;> simp_all
  rw [hadd]
  exact own_cell h hj
theorem own_gen {w : World} {base E sz n : Nat} {v : Value} {xs : List Value} (h : w.ownsRow base E sz v n xs) : ∃ av cap, v = .slice av n cap ∧ n ≤ cap ∧ cap ≤ 9223372036854775807 ∧ (0 < n → ∃ g, av = some ⟨g, 0, none⟩) := by
  obtain ⟨_, ⟨hv, h0⟩ | ⟨g, cap, cur, hv, _, hg, hn, hm, _⟩⟩ := h
  · exact ⟨none, 0, by rw [hv, h0], by omega, by omega, fun z => by omega⟩
  · exact ⟨_, cap, hv, hn, by unfold maxLen at hm; omega, fun _ => ⟨g, rfl⟩⟩

end Go.Proofs.YtmmcadbkmfjcbaaDoor
