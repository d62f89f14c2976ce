/-
  Plain laws on the heap: blocks, cells, and what a call may have turned. No program is named here.
  A region that draws its order: a head whose loads hold only until its tail writes their cells.
  Data that are read: how a value stands in memory. No program is named here.
-/
import Derived.WalkKit
import Derived.Deep.Draws
import Derived.Lib.Hide
import Derived.OwnWalk
import Derived.Deep.AppendLies
import Derived.IntWalk
import Derived.StillTail
import Derived.Deep.RegionHeld3
namespace Go.Proofs.YtajebdpalnpjdaaGreatDoor
open Go.RowKit

abbrev ptr (b : Nat) : Value := .pointer (some ⟨b, 0, none⟩)
abbrev at_ (b o : Nat) : Addr := ⟨b, o, none⟩

theorem heap_setCell_ne (w : World) (b o k : Nat) (u : Value) (h : k ≠ b) : (w.setCell (at_ b o) u).heap[k]? = w.heap[k]? :=
  Below.heap_setCell w (at_ b o) u k h

theorem heap_setCell_eq (w : World) (b o : Nat) (u : Value) (cs : Array Value) (T : TypeId) (fz : Nat × Nat) (h : w.heap[b]? = some (.cells cs T fz)) :
    (w.setCell (at_ b o) u).heap[b]? = some (.cells (cs.setIfInBounds o u) T fz) := by
  simp [World.setCell, Array.getElem?_modify, h]

theorem cell_of_blk {w : World} {b : Nat} {cs : Array Value} {T : TypeId} {fz : Nat × Nat} (h : w.heap[b]? = some (.cells cs T fz)) (o : Nat) :
    w.cell? (at_ b o) = cs[o]? := by simp [World.cell?, h]

theorem free_of_blk {w : World} {b : Nat} {cs : Array Value} {T : TypeId} (h : w.heap[b]? = some (.cells cs T (0, 0))) (o : Nat) :
    w.frozen? (at_ b o) = false := by simp [World.frozen?, h]

theorem lt_of_heap {w : World} {b : Nat} {o : Obj} (h : w.heap[b]? = some o) : b < w.heap.size := by
  rcases Nat.lt_or_ge b w.heap.size with h' | h'
  · exact h'
  · simp [Array.getElem?_eq_none h'] at h

theorem heap_alloc_new (w : World) (o : Obj) : (w.alloc o).heap[w.heap.size]? = some o := by
  show (w.heap.push o)[w.heap.size]? = some o
  simp
theorem heap_alloc_old (w : World) (o : Obj) (k : Nat) (h : k < w.heap.size) : (w.alloc o).heap[k]? = w.heap[k]? := Below.heap_alloc w o k h

/-- What a call may have turned: only blocks in S, and what is new. -/
structure Ext (S : Nat → Prop) (w w' : World) : Prop where
  os : w'.os = w.os
  tape : w'.tape = w.tape
  output : w'.output = w.output
  size : w.heap.size ≤ w'.heap.size
  block : ∀ k, k < w.heap.size → ¬ S k → w'.heap[k]? = w.heap[k]?

theorem Ext.refl (S : Nat → Prop) (w : World) : Ext S w w := ⟨rfl, rfl, rfl, Nat.le_refl _, fun _ _ _ => rfl⟩
theorem Ext.trans {S S' : Nat → Prop} {a b c : World} (h : Ext S a b) (k : Ext S' b c) (hs : ∀ i, i < a.heap.size → S' i → S i) : Ext S a c :=
  ⟨k.os.trans h.os, k.tape.trans h.tape, k.output.trans h.output, Nat.le_trans h.size k.size,
   fun i hi hn => (k.block i (Nat.lt_of_lt_of_le hi h.size) (fun hk => hn (hs i hi hk))).trans (h.block i hi hn)⟩
theorem Ext.mono {S S' : Nat → Prop} {a b : World} (h : Ext S a b) (hs : ∀ i, S i → S' i) : Ext S' a b :=
  ⟨h.os, h.tape, h.output, h.size, fun i hi hn => h.block i hi (fun hk => hn (hs i hk))⟩
theorem Ext.drew {S : Nat → Prop} {a b : World} (h : Ext S a b) : Ext S a b.drew := ⟨h.os, h.tape, h.output, h.size, h.block⟩
theorem Ext.drewN {S : Nat → Prop} {a b : World} (n : Nat) (h : Ext S a b) : Ext S a (b.drewN n) := ⟨h.os, h.tape, h.output, h.size, h.block⟩
theorem Ext.alloc {S : Nat → Prop} {a b : World} (h : Ext S a b) (o : Obj) : Ext S a (b.alloc o) :=
  ⟨h.os, h.tape, h.output, by simp; have := h.size; omega, fun i hi hn => by
    rw [heap_alloc_old _ _ _ (Nat.lt_of_lt_of_le hi h.size)]; exact h.block i hi hn⟩
theorem Ext.setCell {S : Nat → Prop} {a b : World} (h : Ext S a b) (k o : Nat) (hk : k < a.heap.size → S k) (u : Value) : Ext S a (b.setCell (at_ k o) u) :=
  ⟨h.os, h.tape, h.output, by simpa using h.size, fun i hi hn => by
    rw [heap_setCell_ne _ _ _ _ _ (fun e => by subst e; exact hn (hk hi))]; exact h.block i hi hn⟩
theorem Ext.setObj {S : Nat → Prop} {a b : World} (h : Ext S a b) (k : Nat) (o : Obj) (hk : k < a.heap.size → S k) : Ext S a { b with heap := b.heap.setIfInBounds k o } :=
  ⟨h.os, h.tape, h.output, by simpa using h.size, fun i hi hn => by
    show (b.heap.setIfInBounds k o)[i]? = _
    rw [Array.getElem?_setIfInBounds_ne (fun e => by subst e; exact hn (hk hi))]; exact h.block i hi hn⟩
theorem Ext.alike {S : Nat → Prop} {a b c : World} (h : Ext S a b) (ha : c.Alike b) (ht : c.tape = b.tape) : Ext S a c :=
  ⟨ha.2.1.trans h.os, ht.trans h.tape, ha.2.2.trans h.output, by rw [ha.1]; exact h.size, fun i hi hn => by rw [ha.1]; exact h.block i hi hn⟩

theorem cell_setCell_ne (w : World) (b o c p : Nat) (u : Value) (h : b ≠ c ∨ o ≠ p) : (w.setCell (at_ b o) u).cell? (at_ c p) = w.cell? (at_ c p) :=
  World.cell?_setCell_other _ _ _ _ (by intro e; simp only [Addr.mk.injEq, and_true] at e; omega)

def Nope : Nat → Prop := fun _ => False
theorem ext0 {S : Nat → Prop} {a b c : World} (h : Ext S a b) (k : Ext Nope b c) : Ext S a c := h.trans k (fun _ _ x => x.elim)
theorem ext1 {S : Nat → Prop} {a b c : World} (h : Ext Nope a b) (k : Ext S b c) : Ext S a c := (h.mono (fun _ x => x.elim)).trans k (fun _ _ x => x)
theorem toHid {p : Prop} (h : p) : Hid p := h
theorem alloc_drewN (w : World) (n : Nat) (o : Obj) : (w.drewN n).alloc o = (w.alloc o).drewN n := rfl
theorem setCell_drewN (w : World) (n : Nat) (a : Addr) (v : Value) : (w.drewN n).setCell a v = (w.setCell a v).drewN n := rfl
theorem Ext.grown {S : Nat → Prop} {a b c : World} {row : Option Nat} (h : Ext S a b) (hg : b.grownBy c row) (hr : ∀ k, row = some k → k < a.heap.size → S k) : Ext S a c :=
  ⟨hg.os.trans h.os, hg.tape.trans h.tape, hg.output.trans h.output, Nat.le_trans h.size hg.size, fun i hi hn =>
    (hg.block i (Nat.lt_of_lt_of_le hi h.size) (fun e => hn (hr i e.symm hi))).trans (h.block i hi hn)⟩
theorem heap_alloc_at (w : World) (o : Obj) (k : Nat) (h : k = w.heap.size) : (w.alloc o).heap[k]? = some o := by subst h; exact heap_alloc_new w o
theorem nth_split {α : Type} {xs : List α} {k : Nat} (h : k < xs.length) : ∃ y a1 a2, xs = a1 ++ y :: a2 ∧ a1.length = k :=
  ⟨xs[k], xs.take k, xs.drop (k + 1), by rw [List.getElem_cons_drop, List.take_append_drop], by rw [List.length_take]; omega⟩
theorem take_len {α : Type} {xs a b : List α} {y : α} {j : Nat} (h : xs = a ++ y :: b) (hl : a.length = j) : xs.take j = a ∧ xs.take (j + 1) = a ++ [y] := by
  subst hl
  rw [h]
  constructor
  · simp
  · rw [List.take_append, List.take_of_length_le (by omega)]; simp

theorem wpList_take {P : Program} {ops : Array Oper} {Q : Exit → Act → World → Prop} {a : Act} {w : World} {rest : List Oper} {o : Oper} (hw : Region.wanted o (yielded ops a.tmps) = true)
    (h : ∀ K : Act → World → Prop, (∀ a w, wpList P ops Q rest a w → K a w) → o.wp P a w K Q) : wpList P ops Q (o :: rest) a w :=
  wpList_step fun K hK => by rw [if_pos hw]; exact h K hK

theorem own_ext {w w' : World} {S : Nat → Prop} {base E sz n : Nat} {v : Value} {xs : List Value} (h : w.ownsRow base E sz v n xs) (e : Ext S w w') (hs : ∀ g, v.ownBlock = some g → ¬ S g) : w'.ownsRow base E sz v n xs := by
  obtain ⟨h1, h2⟩ := h
  refine ⟨h1, h2.imp id ?_⟩
  rintro ⟨g, cap, cur, hv, hb, hg, rest⟩
  exact ⟨g, cap, cur, hv, hb, (e.block g (lt_of_heap hg) (hs g (by rw [hv]; rfl))).trans hg, rest⟩
theorem own_base {w : World} {b b' E sz n : Nat} {v : Value} {xs : List Value} (h : w.ownsRow b E sz v n xs) (hb : ∀ g, v.ownBlock = some g → b' ≤ g) : w.ownsRow b' E sz v n xs := by
  obtain ⟨h1, h2⟩ := h
  refine ⟨h1, h2.imp id ?_⟩
  rintro ⟨g, cap, cur, hv, _, rest⟩
  exact ⟨g, cap, cur, hv, hb g (by rw [hv]; rfl), rest⟩
theorem own_cell {w : World} {base E sz n m cap g : Nat} {xs : List Value} (h : w.ownsRow base E sz (.slice (some ⟨g, 0, none⟩) n cap) m xs) {j : Nat} {u : Value} (hj : xs[j]? = some u) : w.cell? ⟨g, j, none⟩ = some u := by
  obtain ⟨_, ⟨hv, _⟩ | ⟨g', cap', cur, hv, _, hg, h1, h2, h3, h4⟩⟩ := h
  · cases hv
  · cases hv
    rw [show (⟨g, j, none⟩ : Addr) = at_ g j from rfl, cell_of_blk hg]
    rw [← h4, List.getElem?_take] at hj
    split at hj
    · simpa using hj
    · cases hj
theorem own_cells {w : World} {base E sz n m cap g : Nat} {xs : List Value} (h : w.ownsRow base E sz (.slice (some ⟨g, 0, none⟩) n cap) m xs) : ∀ (j : Nat) (u : Value), xs[j]? = some u → w.cell? (Addr.add ⟨g, 0, none⟩ j) = some u := by
  intro j u hj
  have hadd : Addr.add ⟨g, 0, none⟩ j = ⟨g, j, none⟩ := by unfold Addr.add; split <;> simp_all
  rw [hadd]
  exact own_cell h hj
theorem own_gen {w : World} {base E sz n : Nat} {v : Value} {xs : List Value} (h : w.ownsRow base E sz v n xs) : ∃ av cap, v = .slice av n cap ∧ n ≤ cap ∧ cap ≤ 9223372036854775807 ∧ (0 < n → ∃ g, av = some ⟨g, 0, none⟩) := by
  obtain ⟨_, ⟨hv, h0⟩ | ⟨g, cap, cur, hv, _, hg, hn, hm, _⟩⟩ := h
  · exact ⟨none, 0, by rw [hv, h0], by omega, by omega, fun z => by omega⟩
  · exact ⟨_, cap, hv, hn, by unfold maxLen at hm; omega, fun _ => ⟨g, rfl⟩⟩

end Go.Proofs.YtajebdpalnpjdaaGreatDoor
namespace Go.Proofs.YtajebdpalnpjdaaGreatDoor
section
variable {P : Program} {ops : Array Oper} {Q : Exit → Act → World → Prop} {md : Region.Mode} {S : World → Prop}

/-- f operations of the head come up, in whatever order, with S behind each; then L. -/
def wpAnyT (P : Program) (md : Region.Mode) (ops : Array Oper) (Q : Exit → Act → World → Prop) (S : World → Prop) (n : Nat) (L : Array Bool → Act → World → Prop) : Nat → Array Bool → Act → World → Prop
  | 0, listed, a, w => (∀ j ∈ Region.ready md ops listed, n ≤ j) ∧ L listed a w
  | f + 1, listed, a, w => Region.ready md ops listed ≠ [] ∧ ∀ i ∈ Region.ready md ops listed, i < n ∧ wpOp P ops Q i (fun a' w' => S w' ∧ wpAnyT P md ops Q S n L f (listed.setIfInBounds i true) a' w') a w

theorem wpAny_of_T {n g : Nat} {L : Array Bool → Act → World → Prop} (hL : ∀ listed a w, L listed a w → wpAny P md ops Q g listed a w) :
    ∀ (f : Nat) (listed : Array Bool) (a : Act) (w : World), wpAnyT P md ops Q S n L f listed a w → wpAny P md ops Q (f + g) listed a w
  | 0, listed, a, w, h => by rw [Nat.zero_add]; exact hL _ _ _ h.2
  | f + 1, listed, a, w, h => by
    rw [show f + 1 + g = (f + g) + 1 by omega]
    exact ⟨fun h0 => absurd h0 h.1, fun i hi => wpOp_mono (fun a' w' h' => wpAny_of_T hL f _ a' w' h'.2) (h.2 i hi).2⟩

theorem wpAnyT_first {n i : Nat} {oi : Oper} {v : Value} {L : Array Bool → Act → World → Prop} (hi : ops[i]? = some oi) (hsel : ∀ (j : Nat) (o : Oper) cs b, ops[j]? = some o → o.op ≠ .select cs b)
    (hs : Region.sinkB md ops n = true) (hc : Region.chainB md ops n = true) (hn : n < ops.size) (hin : i < n)
    (hQ : ∀ c a w, Q (.panic c) (a.put oi.dst v) w → Q (.panic c) a w) :
    ∀ (f : Nat) (listed : Array Bool) (a : Act) (w : World), HeadInv md ops n listed →
      (∀ j oj, ops[j]? = some oj → j ≠ i → listed.getD j true = false → (∀ e ∈ oj.after, Region.binds md e = true → e.on ≠ i) → oi.apart ops oj = true) →
      i ∈ Region.ready md ops listed → YieldsIf P ops S oi v a → S w →
      wpAnyT P md ops Q S n L f (listed.setIfInBounds i true) (a.put oi.dst v) w → wpAnyT P md ops Q S n L (f + 1) listed a w := by
  intro f
  induction f with
  | zero =>
    intro listed a w inv _ hr hy hS H
    have hun := (mem_ready.1 hr).1
    refine ⟨fun h => (by rw [h] at hr; cases hr), fun j hj => ?_⟩
    have hjn : j < n := by
      rcases Nat.lt_or_ge j n with h | h
      · exact h
      · exact absurd hj (tail_waits hs hc hn inv _ i rfl hin hun j h)
    refine ⟨hjn, ?_⟩
    by_cases hji : j = i
    · subst hji; exact hy.wpOp hi hS ⟨hS, H⟩
    · have := H.1 j (ready_mono hj hji)
      omega
  | succ f ih =>
    intro listed a w inv hfree hr hy hS H
    have hun := (mem_ready.1 hr).1
    refine ⟨fun h => (by rw [h] at hr; cases hr), fun j hj => ?_⟩
    have hjn : j < n := by
      rcases Nat.lt_or_ge j n with h | h
      · exact h
      · exact absurd hj (tail_waits hs hc hn inv _ i rfl hin hun j h)
    refine ⟨hjn, ?_⟩
    by_cases hji : j = i
    · subst hji; exact hy.wpOp hi hS ⟨hS, H⟩
    · have h1 := (H.2 j (ready_mono hj hji)).2
      obtain ⟨hjun, oj, hoj, hall⟩ := mem_ready.1 hj
      have hnot : ∀ e ∈ oj.after, Region.binds md e = true → e.on ≠ i := fun e he hb heq => by
        have h1 := hall e he hb
        rw [heq, getD_both hun] at h1
        cases h1
      have h2 := wpOp_putIf hoj (hfree j oj hoj hji hjun hnot) (fun cs b => hsel i oi cs b hi) (fun cs b => hsel j oj cs b hoj) hQ hy h1
      have hfree' : ∀ k ok, ops[k]? = some ok → k ≠ i → (listed.setIfInBounds j true).getD k true = false →
          (∀ e ∈ ok.after, Region.binds md e = true → e.on ≠ i) → oi.apart ops ok = true := fun k ok hk hki hun hno => by
        refine hfree k ok hk hki ?_ hno
        by_cases hjk : j = k
        · subst hjk; exact hjun
        · rw [getD_set_ne true hjk] at hun; exact hun
      refine wpOp_mono (fun a' w' h3 => ⟨h3.2.1, ih (listed.setIfInBounds j true) a' w' (inv.set hj hjn) hfree' (ready_mono hr (Ne.symm hji)) h3.1 h3.2.1 ?_⟩) h2
      rw [Array.setIfInBounds_comm _ _ hji]
      exact h3.2.2

/-- The facts on the region that the moves ask for, once. -/
structure HeadOK (md : Region.Mode) (ops : Array Oper) (n : Nat) : Prop where
  sel : Region.noSelect ops = true
  sink : Region.sinkB md ops n = true
  chain : Region.chainB md ops n = true
  lt : n < ops.size
def headB (md : Region.Mode) (ops : Array Oper) (n : Nat) : Bool := Region.noSelect ops && Region.sinkB md ops n && Region.chainB md ops n && decide (n < ops.size)
theorem headOK {n : Nat} (h : headB md ops n = true) : HeadOK md ops n := by
  unfold headB at h
  simp only [Bool.and_eq_true, decide_eq_true_eq] at h
  exact ⟨h.1.1.1, h.1.1.2, h.1.2, h.2⟩
def listedB (md : Region.Mode) (ops : Array Oper) (n : Nat) (listed : Array Bool) : Bool :=
  (listed.size == ops.size) && ((List.range ops.size).all fun j => !(listed.getD j false) || (match ops[j]? with | some oj => oj.after.all fun e => !(Region.binds md e) || listed.getD e.on false | none => true)) && ((List.range ops.size).all fun t => decide (t < n) || !(listed.getD t true))
theorem headInv_of {n : Nat} {listed : Array Bool} (h : listedB md ops n listed = true) : HeadInv md ops n listed := by
  unfold listedB at h
  simp only [Bool.and_eq_true, beq_iff_eq] at h
  obtain ⟨⟨h1, h2⟩, h3⟩ := h
  refine ⟨h1, fun j oj hj hl e he hb => ?_, fun t ht ht' => ?_⟩
  · have hjl : j < ops.size := (Array.getElem?_eq_some_iff.1 hj).1
    have := List.all_eq_true.1 h2 j (List.mem_range.2 hjl)
    rw [hj, hl] at this
    simp only [Bool.not_true, Bool.false_or] at this
    have h4 := (Array.all_eq_true_iff_forall_mem.1 this) e he
    rw [hb] at h4
    simpa using h4
  · have := List.all_eq_true.1 h3 t (List.mem_range.2 ht')
    simp only [Bool.or_eq_true, decide_eq_true_eq, Bool.not_eq_true'] at this
    rcases this with h | h
    · omega
    · exact h
/-- Take number i first. -/
theorem wpAnyT_take {n i : Nat} {oi : Oper} {v : Value} {f : Nat} {listed : Array Bool} {a : Act} {w : World} {L : Array Bool → Act → World → Prop} (hO : HeadOK md ops n) (hi : ops[i]? = some oi)
    (hk : (decide (i < n) && listedB md ops n listed && Region.free md ops listed i && (Region.ready md ops listed).contains i) = true)
    (hQ : ∀ c a w, Q (.panic c) (a.put oi.dst v) w → Q (.panic c) a w) (hy : YieldsIf P ops S oi v a) (hS : S w)
    (h : wpAnyT P md ops Q S n L f (listed.setIfInBounds i true) (a.put oi.dst v) w) : wpAnyT P md ops Q S n L (f + 1) listed a w := by
  simp only [Bool.and_eq_true, decide_eq_true_eq] at hk
  obtain ⟨⟨⟨h1, h2⟩, h3⟩, h4⟩ := hk
  exact wpAnyT_first hi (Region.noSelect_spec hO.sel) hO.sink hO.chain hO.lt h1 hQ f listed a w (headInv_of h2) (Region.free_spec hi h3) (by simpa using h4) hy hS h
/-- Take number i first; its slot is written out. -/
theorem wpAnyT_takeD {n i : Nat} {oi : Oper} {d : Option Tmp} {v : Value} {f : Nat} {listed : Array Bool} {a : Act} {w : World} {L : Array Bool → Act → World → Prop} (hO : HeadOK md ops n) (hi : ops[i]? = some oi) (hd : oi.dst = d)
    (hk : (decide (i < n) && listedB md ops n listed && Region.free md ops listed i && (Region.ready md ops listed).contains i) = true)
    (hQ : ∀ c a w, Q (.panic c) (a.put d v) w → Q (.panic c) a w) (hy : YieldsIf P ops S oi v a) (hS : S w)
    (h : wpAnyT P md ops Q S n L f (listed.setIfInBounds i true) (a.put d v) w) : wpAnyT P md ops Q S n L (f + 1) listed a w := by
  subst hd
  exact wpAnyT_take hO hi hk hQ hy hS h
/-- Number i alone may come up. -/
theorem wpAnyT_one {n i : Nat} {oi : Oper} {f : Nat} {listed : Array Bool} {a : Act} {w : World} {L : Array Bool → Act → World → Prop} (hi : ops[i]? = some oi)
    (hk : decide (Region.ready md ops listed = [i] ∧ i < n) = true) (hw : Region.wanted oi (yielded ops a.tmps) = true)
    (h : ∀ K : Act → World → Prop, Shut (∀ a' w', S w' → (S w' → wpAnyT P md ops Q S n L f (listed.setIfInBounds i true) a' w') → K a' w') → Oper.wp P oi a w K Q) : wpAnyT P md ops Q S n L (f + 1) listed a w := by
  obtain ⟨h1, h2⟩ := of_decide_eq_true hk
  refine ⟨by rw [h1]; simp, fun j hj => ?_⟩
  rw [h1] at hj
  have hji : j = i := by simpa using hj
  subst hji
  refine ⟨h2, ?_⟩
  refine wpOp_step hi (fun K hK => ?_)
  rw [if_pos hw]
  exact h K (fun a' w' hS hW => hK a' w' ⟨hS, hW hS⟩)
/-- The head is done: the tail comes up in its order. -/
theorem wpAnyT_done {n : Nat} {listed : Array Bool} {a : Act} {w : World} {L : Array Bool → Act → World → Prop} (hk : decide (Region.ready md ops listed = [n]) = true) (h : L listed a w) : wpAnyT P md ops Q S n L 0 listed a w :=
  ⟨by rw [of_decide_eq_true hk]; intro j hj; simp only [List.mem_singleton] at hj; omega, h⟩
/-- The beginning. -/
theorem wp_region_head {id : Nat} {a : Act} {w : World} {l : List Oper} (n : Nat) (S : World → Prop) (hm : P.follows .mixedOrders = true) (hB : headB .any l.toArray n = true) (hS : S w.drew)
    (h : HeadOK .any l.toArray n → S w.drew → wpAnyT P .any l.toArray Q S n (fun listed a' w' => Region.seqB .any l.toArray (l.drop n).length n listed = true ∧ wpList P l.toArray Q (l.drop n) a' w') n (Array.replicate l.toArray.size false) a w.drew) :
    (Code.region id l.toArray true).wp P Q a w := by
  have hO := headOK hB
  refine wp_region_any hm ?_
  have hn : n < l.length := by simpa using hO.lt
  have := wpAny_of_T (P := P) (md := .any) (ops := l.toArray) (Q := Q) (S := S) (n := n) (g := (l.drop n).length) (fun listed a' w' hL => wpAny_of_seq (md := .any) (Q' := Q) (l.drop n) n listed a' w' (fun j => by simp [List.getElem?_drop]) hL.1 hL.2) n _ _ _ (h hO hS)
  rwa [show n + (l.drop n).length = l.toArray.size by simp; omega] at this
end
end Go.Proofs.YtajebdpalnpjdaaGreatDoor
namespace Go.Proofs.YtajebdpalnpjdaaGreatDoor
open Go.RowKit

/-- Data: numbers, texts, lists of things of so many cells, and records. -/
inductive Dat where
  | i (n : Int)
  | b (x : Bool)
  | s (x : ByteArray)
  | l (sz : Nat) (xs : List Dat)
  | r (fs : List Dat)
  | raw (v : Value)
def i64 (n : Int) : Prop := -9223372036854775808 ≤ n ∧ n ≤ 9223372036854775807
/-- Cells hold data; what lies behind slices lies in blocks of A. -/
inductive Rd (A : Nat → Prop) (w : World) : List Value → Dat → Prop where
  | int (n : Int) : i64 n → Rd A w [.int .i64 n] (.i n)
  | bool (x : Bool) : Rd A w [.bool x] (.b x)
  | str (x : ByteArray) : x.size ≤ maxLen → Rd A w [.string x] (.s x)
  | raw (v : Value) : v.oneCell' = true → Rd A w [v] (.raw v)
  | nil : Rd A w [] (.r [])
  | cons {cs cs' : List Value} {d : Dat} {ds : List Dat} : Rd A w cs d → Rd A w cs' (.r ds) → Rd A w (cs ++ cs') (.r (d :: ds))
  | list {sz : Nat} {xs : List Dat} (a : Option Addr) (cap b off : Nat) (css : Nat → List Value) : xs.length ≤ cap → cap ≤ 9223372036854775807 →
      (0 < xs.length → a = some ⟨b, off, none⟩ ∧ A b ∧ b < w.heap.size) → (∀ k x, xs[k]? = some x → (css k).length = sz) →
      (∀ k x, xs[k]? = some x → ∀ j u, (css k)[j]? = some u → w.cell? ⟨b, off + k * sz + j, none⟩ = some u) →
      (∀ k x, xs[k]? = some x → Rd A w (css k) x) → Rd A w [.slice a xs.length cap] (.l sz xs)

theorem Rd.ext {A S : Nat → Prop} {w w' : World} {cs : List Value} {d : Dat} (h : Rd A w cs d) (e : Ext S w w') (hs : ∀ b, A b → ¬ S b) : Rd A w' cs d := by
  induction h with
  | int n h => exact .int n h
  | bool x => exact .bool x
  | str x h => exact .str x h
  | raw v h => exact .raw v h
  | nil => exact .nil
  | cons _ _ i1 i2 => exact .cons i1 i2
  | @list sz xs a cap b off css h1 h2 h3 h4 h5 _ ih =>
    refine .list a cap b off css h1 h2 (fun h0 => ⟨(h3 h0).1, (h3 h0).2.1, Nat.lt_of_lt_of_le (h3 h0).2.2 e.size⟩) h4 (fun k x hk j u hu => ?_) ih
    have h0 : 0 < xs.length := by
      have := (List.getElem?_eq_some_iff.1 hk).1
      omega
    obtain ⟨_, hA, hb⟩ := h3 h0
    exact (World.cell?_of_block (w := w) (e.block b hb (hs b hA))).trans (h5 k x hk j u hu)
theorem Rd.ext0 {A : Nat → Prop} {w w' : World} {cs : List Value} {d : Dat} (h : Rd A w cs d) (e : Ext Nope w w') : Rd A w' cs d := h.ext e fun _ _ z => z
theorem Rd.mono {A B : Nat → Prop} {w : World} {cs : List Value} {d : Dat} (h : Rd A w cs d) (hs : ∀ b, b < w.heap.size → A b → B b) : Rd B w cs d := by
  induction h with
  | int n h => exact .int n h
  | bool x => exact .bool x
  | str x h => exact .str x h
  | raw v h => exact .raw v h
  | nil => exact .nil
  | cons _ _ i1 i2 => exact .cons i1 i2
  | list a cap b off css h1 h2 h3 h4 h5 _ ih => exact .list a cap b off css h1 h2 (fun h0 => ⟨(h3 h0).1, hs _ (h3 h0).2.2 (h3 h0).2.1, (h3 h0).2.2⟩) h4 h5 ih
theorem Rd.i_inv {A : Nat → Prop} {w : World} {cs : List Value} {n : Int} (h : Rd A w cs (.i n)) : cs = [.int .i64 n] ∧ i64 n := by
  cases h with | int _ h => exact ⟨rfl, h⟩
theorem Rd.b_inv {A : Nat → Prop} {w : World} {cs : List Value} {x : Bool} (h : Rd A w cs (.b x)) : cs = [.bool x] := by
  cases h with | bool => rfl
theorem Rd.s_inv {A : Nat → Prop} {w : World} {cs : List Value} {x : ByteArray} (h : Rd A w cs (.s x)) : cs = [.string x] ∧ x.size ≤ maxLen := by
  cases h with | str _ h => exact ⟨rfl, h⟩
theorem Rd.raw_inv {A : Nat → Prop} {w : World} {cs : List Value} {v : Value} (h : Rd A w cs (.raw v)) : cs = [v] ∧ v.oneCell' = true := by
  cases h with | raw _ h => exact ⟨rfl, h⟩
/-- Each cell holds a value of one cell. -/
theorem Rd.one {A : Nat → Prop} {w : World} {cs : List Value} {d : Dat} (h : Rd A w cs d) : ∀ u ∈ cs, u.oneCell' = true := by
  induction h with
  | int | bool | str | list => intro u hu; simp only [List.mem_singleton] at hu; subst hu; rfl
  | raw v h => intro u hu; simp only [List.mem_singleton] at hu; subst hu; exact h
  | nil => intro u hu; cases hu
  | cons _ _ i1 i2 => intro u hu; exact (List.mem_append.1 hu).elim (i1 u) (i2 u)
theorem store_one {P : Program} {v : Value} (hv : v.oneCell' = true) : ∀ (w : World) (a : Addr) (m : Mode), (store a v m).run P w = stored P w a v m := fun w a m => run_store P w a v m hv
theorem Rd.r_nil {A : Nat → Prop} {w : World} {cs : List Value} (h : Rd A w cs (.r [])) : cs = [] := by
  cases h with | nil => rfl
theorem Rd.r_cons {A : Nat → Prop} {w : World} {cs : List Value} {d : Dat} {ds : List Dat} (h : Rd A w cs (.r (d :: ds))) : ∃ c1 c2, cs = c1 ++ c2 ∧ Rd A w c1 d ∧ Rd A w c2 (.r ds) := by
  cases h with | cons h1 h2 => exact ⟨_, _, rfl, h1, h2⟩
theorem Rd.l_inv {A : Nat → Prop} {w : World} {cs : List Value} {sz : Nat} {xs : List Dat} (h : Rd A w cs (.l sz xs)) : ∃ a cap, cs = [.slice a xs.length cap] ∧ xs.length ≤ cap ∧ cap ≤ 9223372036854775807 ∧
    (0 < xs.length → ∃ b off, a = some ⟨b, off, none⟩ ∧ A b ∧ b < w.heap.size ∧ ∀ k x, xs[k]? = some x → ∃ us : List Value, us.length = sz ∧ (∀ j u, us[j]? = some u → w.cell? ⟨b, off + k * sz + j, none⟩ = some u) ∧ Rd A w us x) := by
  cases h with
  | list a cap b off css h1 h2 h3 h4 h5 h6 => exact ⟨a, cap, rfl, h1, h2, fun h0 => ⟨b, off, (h3 h0).1, (h3 h0).2.1, (h3 h0).2.2, fun k x hk => ⟨css k, h4 k x hk, h5 k x hk, h6 k x hk⟩⟩⟩
/-- A slice's head: its length. -/
theorem Rd.len {A : Nat → Prop} {w : World} {v : Value} {sz : Nat} {xs : List Dat} (h : Rd A w [v] (.l sz xs)) : ∃ a cap, v = .slice a xs.length cap ∧ xs.length ≤ cap ∧ cap ≤ 9223372036854775807 := by
  obtain ⟨a, cap, hv, h1, h2, _⟩ := h.l_inv
  exact ⟨a, cap, by simpa using hv, h1, h2⟩
/-- One number of a record. -/
theorem Rd.ri {A : Nat → Prop} {w : World} {cs : List Value} {n : Int} {ds : List Dat} (h : Rd A w cs (.r (.i n :: ds))) : ∃ c2, cs = .int .i64 n :: c2 ∧ i64 n ∧ Rd A w c2 (.r ds) := by
  obtain ⟨c1, c2, rfl, h1, h2⟩ := h.r_cons
  obtain ⟨rfl, hn⟩ := h1.i_inv
  exact ⟨c2, rfl, hn, h2⟩
theorem Rd.rb {A : Nat → Prop} {w : World} {cs : List Value} {n : Bool} {ds : List Dat} (h : Rd A w cs (.r (.b n :: ds))) : ∃ c2, cs = .bool n :: c2 ∧ Rd A w c2 (.r ds) := by
  obtain ⟨c1, c2, rfl, h1, h2⟩ := h.r_cons
  obtain rfl := h1.b_inv
  exact ⟨c2, rfl, h2⟩
theorem Rd.rs {A : Nat → Prop} {w : World} {cs : List Value} {n : ByteArray} {ds : List Dat} (h : Rd A w cs (.r (.s n :: ds))) : ∃ c2, cs = .string n :: c2 ∧ n.size ≤ maxLen ∧ Rd A w c2 (.r ds) := by
  obtain ⟨c1, c2, rfl, h1, h2⟩ := h.r_cons
  obtain ⟨rfl, hn⟩ := h1.s_inv
  exact ⟨c2, rfl, hn, h2⟩
theorem Rd.rl {A : Nat → Prop} {w : World} {cs : List Value} {sz : Nat} {xs ds : List Dat} (h : Rd A w cs (.r (.l sz xs :: ds))) : ∃ v c2, cs = v :: c2 ∧ Rd A w [v] (.l sz xs) ∧ Rd A w c2 (.r ds) := by
  obtain ⟨c1, c2, rfl, h1, h2⟩ := h.r_cons
  have h1' := h1
  obtain ⟨a, cap, rfl, _⟩ := h1'.l_inv
  exact ⟨_, c2, rfl, h1, h2⟩
theorem Rd.ends {A : Nat → Prop} {w : World} : Rd A w [] (.r []) := .nil
theorem Rd.mk1 {A : Nat → Prop} {w : World} {v : Value} {cs : List Value} {d : Dat} {ds : List Dat} (h : Rd A w [v] d) (k : Rd A w cs (.r ds)) : Rd A w (v :: cs) (.r (d :: ds)) := Rd.cons h k
/-- The slice that is nothing. -/
theorem Rd.empty {A : Nat → Prop} {w : World} (sz : Nat) : Rd A w [.slice none 0 0] (.l sz []) :=
  .list (xs := []) none 0 0 0 (fun _ => []) (Nat.le_refl _) (by omega) (fun h => absurd h (by simp)) (fun _ _ h => by simp at h) (fun _ _ h => by simp at h) (fun _ _ h => by simp at h)
/-- What a slice of one's own holds can be read. -/
theorem Rd.own {A : Nat → Prop} {w : World} {base E sz : Nat} {v : Value} {xs : List Dat} {us : List Value} (h : w.ownsRow base E sz v xs.length us) (hA : ∀ g, v.ownBlock = some g → A g)
    (hx : ∀ k x, xs[k]? = some x → Rd A w ((us.drop (k * sz)).take sz) x) : Rd A w [v] (.l sz xs) := by
  obtain ⟨hl, ⟨rfl, h0⟩ | ⟨g, cap, cur, rfl, hb, hg, hn, hm, hs, ht⟩⟩ := h
  · have hx0 : xs = [] := List.length_eq_zero_iff.1 h0
    subst hx0
    exact Rd.empty sz
  · unfold maxLen at hm
    have hroom : ∀ k x, xs[k]? = some x → k * sz + sz ≤ us.length := fun k x hk => by
      have h1 := (List.getElem?_eq_some_iff.1 hk).1
      rw [hl]
      have : (k + 1) * sz ≤ xs.length * sz := Nat.mul_le_mul_right _ h1
      rw [Nat.add_mul, Nat.one_mul] at this
      exact this
    refine .list _ cap g 0 (fun k => (us.drop (k * sz)).take sz) hn (by omega) (fun _ => ⟨rfl, hA g rfl, lt_of_heap hg⟩) (fun k x hk => ?_) (fun k x hk j u hu => ?_) hx
    · have := hroom k x hk
      rw [List.length_take, List.length_drop]
      omega
    · have hj : us[k * sz + j]? = some u := by
        rw [List.getElem?_take] at hu
        split at hu
        · rw [List.getElem?_drop] at hu; exact hu
        · cases hu
      rw [← ht, List.getElem?_take] at hj
      split at hj
      · rw [show (⟨g, 0 + k * sz + j, none⟩ : Addr) = at_ g (k * sz + j) by simp, cell_of_blk hg]
        simpa using hj
      · cases hj
/-- Lists of numbers. -/
def intsD (l : List Int) : Dat := .l 1 (l.map .i)
theorem Rd.ints {A : Nat → Prop} {w : World} {base E : Nat} {v : Value} {l : List Int} (h : w.ownsRow base E 1 v l.length (l.map fun n => .int .i64 n)) (hA : ∀ g, v.ownBlock = some g → A g) (hi : ∀ n ∈ l, i64 n) : Rd A w [v] (intsD l) := by
  refine Rd.own (xs := l.map .i) (by simpa using h) hA fun k x hk => ?_
  rw [List.getElem?_map] at hk
  obtain ⟨n, hn, rfl⟩ := Option.map_eq_some_iff.1 hk
  have e : ((l.map fun n => Value.int .i64 n).drop (k * 1)).take 1 = [.int .i64 n] := by
    rw [Nat.mul_one, ← List.map_drop, ← List.map_take, List.drop_eq_getElem_cons (List.getElem?_eq_some_iff.1 hn).1]
    rw [(List.getElem?_eq_some_iff.1 hn).2]
    simp
  rw [e]
  exact .int n (hi n (List.mem_of_getElem? hn))
/-- A list of numbers, read at a place. -/
theorem Rd.ints_inv {A : Nat → Prop} {w : World} {v : Value} {l : List Int} (h : Rd A w [v] (intsD l)) : ∃ a cap, v = .slice a l.length cap ∧ l.length ≤ cap ∧ cap ≤ 9223372036854775807 ∧ (∀ n ∈ l, i64 n) ∧
    (0 < l.length → ∃ b off, a = some ⟨b, off, none⟩ ∧ A b ∧ b < w.heap.size ∧ ∀ k n, l[k]? = some n → w.cell? ⟨b, off + k, none⟩ = some (.int .i64 n)) := by
  obtain ⟨a, cap, hv, h1, h2, h3⟩ := Rd.l_inv h
  rw [List.length_map] at hv h1 h3
  have hv : v = .slice a l.length cap := by simpa using hv
  have get : ∀ b off, (∀ k x, (l.map Dat.i)[k]? = some x → ∃ us : List Value, us.length = 1 ∧ (∀ j u, us[j]? = some u → w.cell? ⟨b, off + k * 1 + j, none⟩ = some u) ∧ Rd A w us x) → ∀ k n, l[k]? = some n → i64 n ∧ w.cell? ⟨b, off + k, none⟩ = some (.int .i64 n) := by
    intro b off hc k n hk
    obtain ⟨us, _, hu, hr⟩ := hc k (.i n) (by rw [List.getElem?_map, hk]; rfl)
    obtain ⟨rfl, hi⟩ := hr.i_inv
    exact ⟨hi, by simpa using hu 0 _ rfl⟩
  refine ⟨a, cap, hv, h1, h2, fun n hn => ?_, fun h0 => ?_⟩
  · obtain ⟨k, hk⟩ := List.mem_iff_getElem?.1 hn
    obtain ⟨b, off, _, _, _, hc⟩ := h3 (by have := (List.getElem?_eq_some_iff.1 hk).1; omega)
    exact (get b off hc k n hk).1
  · obtain ⟨b, off, ha, hA, hb, hc⟩ := h3 h0
    exact ⟨b, off, ha, hA, hb, fun k n hk => (get b off hc k n hk).2⟩
end Go.Proofs.YtajebdpalnpjdaaGreatDoor
