/-
  Plain laws on the heap: blocks, cells, links of a ring, and what a call may have turned. No program is named here.
-/
import Derived.WalkKit
import Derived.Deep.Draws
namespace Go.Proofs.Ytkloaadaicklfaa
open Go.RowKit

abbrev ptr (b : Nat) : Value := .pointer (some ⟨b, 0, none⟩)
abbrev at_ (b o : Nat) : Addr := ⟨b, o, none⟩

theorem heap_setCell_ne (w : World) (b o k : Nat) (u : Value) (h : k ≠ b) : (w.setCell (at_ b o) u).heap[k]? = w.heap[k]? :=
  Below.heap_setCell w (at_ b o) u k h

theorem heap_setCell_eq (w : World) (b o : Nat) (u : Value) (cs : Array Value) (T : TypeId) (fz : Nat × Nat) (h : w.heap[b]? = some (.cells cs T fz)) :
    (w.setCell (at_ b o) u).heap[b]? = some (.cells (cs.setIfInBounds o u) T fz) := by
  simp [World.setCell, Array.getElem?_modify, h]

theorem cell_of_blk {w : World} {b : Nat} {cs : Array Value} {T : TypeId} {fz : Nat × Nat} (h : w.heap[b]? = some (.cells cs T fz)) (o : Nat) :
    w.cell? (at_ b o) = cs[o]? := by simp [World.cell?, h]

theorem free_of_blk {w : World} {b : Nat} {cs : Array Value} {T : TypeId} (h : w.heap[b]? = some (.cells cs T (0, 0))) (o : Nat) :
    w.frozen? (at_ b o) = false := by simp [World.frozen?, h]

theorem lt_of_heap {w : World} {b : Nat} {o : Obj} (h : w.heap[b]? = some o) : b < w.heap.size := by
  rcases Nat.lt_or_ge b w.heap.size with h' | h'
  · exact h'
  · simp [Array.getElem?_eq_none h'] at h

theorem heap_alloc_new (w : World) (o : Obj) : (w.alloc o).heap[w.heap.size]? = some o := by
  show (w.heap.push o)[w.heap.size]? = some o
  simp
theorem heap_alloc_old (w : World) (o : Obj) (k : Nat) (h : k < w.heap.size) : (w.alloc o).heap[k]? = w.heap[k]? := Below.heap_alloc w o k h

/-- What a call may have turned: only blocks in S, and what is new. -/
structure Ext (S : Nat → Prop) (w w' : World) : Prop where
  os : w'.os = w.os
  tape : w'.tape = w.tape
  output : w'.output = w.output
  size : w.heap.size ≤ w'.heap.size
  block : ∀ k, k < w.heap.size → ¬ S k → w'.heap[k]? = w.heap[k]?

theorem Ext.refl (S : Nat → Prop) (w : World) : Ext S w w := ⟨rfl, rfl, rfl, Nat.le_refl _, fun _ _ _ => rfl⟩
theorem Ext.trans {S S' : Nat → Prop} {a b c : World} (h : Ext S a b) (k : Ext S' b c) (hs : ∀ i, i < a.heap.size → S' i → S i) : Ext S a c :=
  ⟨k.os.trans h.os, k.tape.trans h.tape, k.output.trans h.output, Nat.le_trans h.size k.size,
   fun i hi hn => (k.block i (Nat.lt_of_lt_of_le hi h.size) (fun hk => hn (hs i hi hk))).trans (h.block i hi hn)⟩
theorem Ext.mono {S S' : Nat → Prop} {a b : World} (h : Ext S a b) (hs : ∀ i, S i → S' i) : Ext S' a b :=
  ⟨h.os, h.tape, h.output, h.size, fun i hi hn => h.block i hi (fun hk => hn (hs i hk))⟩
theorem Ext.drew {S : Nat → Prop} {a b : World} (h : Ext S a b) : Ext S a b.drew := ⟨h.os, h.tape, h.output, h.size, h.block⟩
theorem Ext.drewN {S : Nat → Prop} {a b : World} (n : Nat) (h : Ext S a b) : Ext S a (b.drewN n) := ⟨h.os, h.tape, h.output, h.size, h.block⟩
theorem Ext.alloc {S : Nat → Prop} {a b : World} (h : Ext S a b) (o : Obj) : Ext S a (b.alloc o) :=
  ⟨h.os, h.tape, h.output, by simp; have := h.size; omega, fun i hi hn => by
    rw [heap_alloc_old _ _ _ (Nat.lt_of_lt_of_le hi h.size)]; exact h.block i hi hn⟩
theorem Ext.setCell {S : Nat → Prop} {a b : World} (h : Ext S a b) (k o : Nat) (hk : k < a.heap.size → S k) (u : Value) : Ext S a (b.setCell (at_ k o) u) :=
  ⟨h.os, h.tape, h.output, by simpa using h.size, fun i hi hn => by
    rw [heap_setCell_ne _ _ _ _ _ (fun e => by subst e; exact hn (hk hi))]; exact h.block i hi hn⟩
theorem Ext.setObj {S : Nat → Prop} {a b : World} (h : Ext S a b) (k : Nat) (o : Obj) (hk : k < a.heap.size → S k) : Ext S a { b with heap := b.heap.setIfInBounds k o } :=
  ⟨h.os, h.tape, h.output, by simpa using h.size, fun i hi hn => by
    show (b.heap.setIfInBounds k o)[i]? = _
    rw [Array.getElem?_setIfInBounds_ne (fun e => by subst e; exact hn (hk hi))]; exact h.block i hi hn⟩
theorem Ext.alike {S : Nat → Prop} {a b c : World} (h : Ext S a b) (ha : c.Alike b) (ht : c.tape = b.tape) : Ext S a c :=
  ⟨ha.2.1.trans h.os, ht.trans h.tape, ha.2.2.trans h.output, by rw [ha.1]; exact h.size, fun i hi hn => by rw [ha.1]; exact h.block i hi hn⟩

/-- A block that is a row of cells, n of them, writable. -/
def Row (w : World) (b n : Nat) (T : TypeId) : Prop := ∃ cs : Array Value, w.heap[b]? = some (.cells cs T (0, 0)) ∧ cs.size = n

theorem Row.of_eq {w w' : World} {b n : Nat} {T : TypeId} (h : Row w b n T) (he : w'.heap[b]? = w.heap[b]?) : Row w' b n T := by
  obtain ⟨cs, h1, h2⟩ := h
  exact ⟨cs, he.trans h1, h2⟩
theorem Row.lt {w : World} {b n : Nat} {T : TypeId} (h : Row w b n T) : b < w.heap.size := by obtain ⟨cs, h1, _⟩ := h; exact lt_of_heap h1
theorem Row.free {w : World} {b n : Nat} {T : TypeId} (h : Row w b n T) (o : Nat) : w.frozen? (at_ b o) = false := by obtain ⟨cs, h1, _⟩ := h; exact free_of_blk h1 o
theorem Row.cell {w : World} {b n : Nat} {T : TypeId} (h : Row w b n T) {o : Nat} (ho : o < n) : ∃ v, w.cell? (at_ b o) = some v := by
  obtain ⟨cs, h1, h2⟩ := h
  exact ⟨cs[o]'(by omega), by rw [cell_of_blk h1]; simp [h2, ho]⟩
theorem Row.setCell {w : World} {b n : Nat} {T : TypeId} (h : Row w b n T) (c o : Nat) (u : Value) : Row (w.setCell (at_ c o) u) b n T := by
  by_cases e : b = c
  · subst e
    obtain ⟨cs, h1, h2⟩ := h
    exact ⟨_, heap_setCell_eq _ _ _ _ _ _ _ h1, by simpa using h2⟩
  · exact h.of_eq (heap_setCell_ne _ _ _ _ _ e)
theorem cell_setCell_ne (w : World) (b o c p : Nat) (u : Value) (h : b ≠ c ∨ o ≠ p) : (w.setCell (at_ b o) u).cell? (at_ c p) = w.cell? (at_ c p) :=
  World.cell?_setCell_other _ _ _ _ (by intro e; simp only [Addr.mk.injEq, and_true] at e; omega)
theorem Row.cell_setCell {w : World} {b n : Nat} {T : TypeId} (h : Row w b n T) {o : Nat} (ho : o < n) (u : Value) : (w.setCell (at_ b o) u).cell? (at_ b o) = some u := by
  obtain ⟨v, hv⟩ := h.cell ho
  exact World.cell?_setCell_same _ _ _ hv

/-- Consecutive blocks of the list are linked, there and back: cell nx of the first leads to the second, cell pv of the second to the first. -/
def Links (pv nx : Nat) (w : World) : List Nat → Prop
  | a :: b :: r => w.cell? (at_ a nx) = some (ptr b) ∧ w.cell? (at_ b pv) = some (ptr a) ∧ Links pv nx w (b :: r)
  | _ => True

theorem Links.append {pv nx : Nat} {w : World} : ∀ {l : List Nat} {m : Nat} {r : List Nat}, Links pv nx w (l ++ m :: r) ↔ Links pv nx w (l ++ [m]) ∧ Links pv nx w (m :: r)
  | [], m, r => by simp [Links]
  | [a], m, r => by simp [Links, and_assoc]
  | a :: b :: l, m, r => by
    have := Links.append (pv := pv) (nx := nx) (w := w) (l := b :: l) (m := m) (r := r)
    simp only [List.cons_append] at this ⊢
    simp only [Links, this, and_assoc]

/-- Links stay where no cell that they speak of is turned. -/
theorem Links.kept {pv nx : Nat} {w w' : World} : ∀ {l : List Nat}, Links pv nx w l → (∀ a, a ∈ l.dropLast → w'.cell? (at_ a nx) = w.cell? (at_ a nx)) → (∀ a, a ∈ l.tail → w'.cell? (at_ a pv) = w.cell? (at_ a pv)) → Links pv nx w' l
  | [], _, _, _ => trivial
  | [_], _, _, _ => trivial
  | a :: b :: r, h, h1, h2 => by
    obtain ⟨g1, g2, g3⟩ := h
    refine ⟨(h1 a (by simp)).trans g1, (h2 b (by simp)).trans g2, Links.kept g3 (fun x hx => h1 x ?_) (fun x hx => h2 x ?_)⟩
    · simp only [List.dropLast_cons_of_ne_nil (List.cons_ne_nil b r)]; exact List.mem_cons_of_mem _ hx
    · simp only [List.tail_cons] at hx ⊢; exact List.mem_cons_of_mem _ hx

end Go.Proofs.Ytkloaadaicklfaa
