/-
  A region that draws its order: a head whose loads hold only until its tail writes their cells.
-/
import Derived.StillTail
import Derived.Deep.RegionHeld3
namespace Go.Proofs.YtmmcadbkmfjcbaaDoor
section
variable {P : Program} {ops : Array Oper} {Q : Exit → Act → World → Prop} {md : Region.Mode} {S : World → Prop}

/-- f operations of the head come up, in whatever order, with S behind each; then L. -/
def wpAnyT (P : Program) (md : Region.Mode) (ops : Array Oper) (Q : Exit → Act → World → Prop) (S : World → Prop) (n : Nat) (L : Array Bool → Act → World → Prop) : Nat → Array Bool → Act → World → Prop
  | 0, listed, a, w => (∀ j ∈ Region.ready md ops listed, n ≤ j) ∧ L listed a w
  | f + 1, listed, a, w => Region.ready md ops listed ≠ [] ∧ ∀ i ∈ Region.ready md ops listed, i < n ∧ wpOp P ops Q i (fun a' w' => S w' ∧ wpAnyT P md ops Q S n L f (listed.setIfInBounds i true) a' w') a w

theorem wpAny_of_T {n g : Nat} {L : Array Bool → Act → World → Prop} (hL : ∀ listed a w, L listed a w → wpAny P md ops Q g listed a w) :
    ∀ (f : Nat) (listed : Array Bool) (a : Act) (w : World), wpAnyT P md ops Q S n L f listed a w → wpAny P md ops Q (f + g) listed a w
  | 0, listed, a, w, h => by rw [Nat.zero_add]; exact hL _ _ _ h.2
  | f + 1, listed, a, w, h => by
    rw [show f + 1 + g = (f + g) + 1 by omega]
    exact ⟨fun h0 => absurd h0 h.1, fun i hi => wpOp_mono (fun a' w' h' => wpAny_of_T hL f _ a' w' h'.2) (h.2 i hi).2⟩

theorem wpAnyT_first {n i : Nat} {oi : Oper} {v : Value} {L : Array Bool → Act → World → Prop} (hi : ops[i]? = some oi) (hsel : ∀ (j : Nat) (o : Oper) cs b, ops[j]? = some o → o.op ≠ .select cs b)
    (hs : Region.sinkB md ops n = true) (hc : Region.chainB md ops n = true) (hn : n < ops.size) (hin : i < n)
    (hQ : ∀ c a w, Q (.panic c) (a.put oi.dst v) w → Q (.panic c) a w) :
    ∀ (f : Nat) (listed : Array Bool) (a : Act) (w : World), HeadInv md ops n listed →
      (∀ j oj, ops[j]? = some oj → j ≠ i → listed.getD j true = false → (∀ e ∈ oj.after, Region.binds md e = true → e.on ≠ i) → oi.apart ops oj = true) →
      i ∈ Region.ready md ops listed → YieldsIf P ops S oi v a → S w →
      wpAnyT P md ops Q S n L f (listed.setIfInBounds i true) (a.put oi.dst v) w → wpAnyT P md ops Q S n L (f + 1) listed a w := by
  intro f
  induction f with
  | zero =>
    intro listed a w inv _ hr hy hS H
    have hun := (mem_ready.1 hr).1
    refine ⟨fun h => (by rw [h] at hr; cases hr), fun j hj => ?_⟩
    have hjn : j < n := by
      rcases Nat.lt_or_ge j n with h | h
      · exact h
      · exact absurd hj (tail_waits hs hc hn inv _ i rfl hin hun j h)
    refine ⟨hjn, ?_⟩
    by_cases hji : j = i
    · subst hji; exact hy.wpOp hi hS ⟨hS, H⟩
    · have := H.1 j (ready_mono hj hji)
      omega
  | succ f ih =>
    intro listed a w inv hfree hr hy hS H
    have hun := (mem_ready.1 hr).1
    refine ⟨fun h => (by rw [h] at hr; cases hr), fun j hj => ?_⟩
    have hjn : j < n := by
      rcases Nat.lt_or_ge j n with h | h
      · exact h
      · exact absurd hj (tail_waits hs hc hn inv _ i rfl hin hun j h)
    refine ⟨hjn, ?_⟩
    by_cases hji : j = i
    · subst hji; exact hy.wpOp hi hS ⟨hS, H⟩
    · have h1 := (H.2 j (ready_mono hj hji)).2
      obtain ⟨hjun, oj, hoj, hall⟩ := mem_ready.1 hj
      have hnot : ∀ e ∈ oj.after, Region.binds md e = true → e.on ≠ i := fun e he hb heq => by
        have h1 := hall e he hb
        rw [heq, getD_both hun] at h1
        cases h1
      have h2 := wpOp_putIf hoj (hfree j oj hoj hji hjun hnot) (fun cs b => hsel i oi cs b hi) (fun cs b => hsel j oj cs b hoj) hQ hy h1
      have hfree' : ∀ k ok, ops[k]? = some ok → k ≠ i → (listed.setIfInBounds j true).getD k true = false →
          (∀ e ∈ ok.after, Region.binds md e = true → e.on ≠ i) → oi.apart ops ok = true := fun k ok hk hki hun hno => by
        refine hfree k ok hk hki ?_ hno
        by_cases hjk : j = k
        · subst hjk; exact hjun
        · rw [getD_set_ne true hjk] at hun; exact hun
      refine wpOp_mono (fun a' w' h3 => ⟨h3.2.1, ih (listed.setIfInBounds j true) a' w' (inv.set hj hjn) hfree' (ready_mono hr (Ne.symm hji)) h3.1 h3.2.1 ?_⟩) h2
      rw [Array.setIfInBounds_comm _ _ hji]
      exact h3.2.2

/-- The facts on the region that the moves ask for, once. -/
structure HeadOK (md : Region.Mode) (ops : Array Oper) (n : Nat) : Prop where
  sel : Region.noSelect ops = true
  sink : Region.sinkB md ops n = true
  chain : Region.chainB md ops n = true
  lt : n < ops.size
def headB (md : Region.Mode) (ops : Array Oper) (n : Nat) : Bool := Region.noSelect ops && Region.sinkB md ops n && Region.chainB md ops n && decide (n < ops.size)
theorem headOK {n : Nat} (h : headB md ops n = true) : HeadOK md ops n := by
  unfold headB at h
  simp only [Bool.and_eq_true, decide_eq_true_eq] at h
  exact ⟨h.1.1.1, h.1.1.2, h.1.2, h.2⟩
def listedB (md : Region.Mode) (ops : Array Oper) (n : Nat) (listed : Array Bool) : Bool :=
  (listed.size == ops.size) && ((List.range ops.size).all fun j => !(listed.getD j false) || (match ops[j]? with | some oj => oj.after.all fun e => !(Region.binds md e) || listed.getD e.on false | none => true)) && ((List.range ops.size).all fun t => decide (t < n) || !(listed.getD t true))
theorem headInv_of {n : Nat} {listed : Array Bool} (h : listedB md ops n listed = true) : HeadInv md ops n listed := by
  unfold listedB at h
  simp only [Bool.and_eq_true, beq_iff_eq] at h
  obtain ⟨⟨h1, h2⟩, h3⟩ := h
  refine ⟨h1, fun j oj hj hl e he hb => ?_, fun t ht ht' => ?_⟩
  · have hjl : j < ops.size := (Array.getElem?_eq_some_iff.1 hj).1
    have := List.all_eq_true.1 h2 j (List.mem_range.2 hjl)
    rw [hj, hl] at this
    simp only [Bool.not_true, Bool.false_or] at this
    have h4 := (Array.all_eq_true_iff_forall_mem.1 this) e he
    rw [hb] at h4
    simpa using h4
  · have := List.all_eq_true.1 h3 t (List.mem_range.2 ht')
    simp only [Bool.or_eq_true, decide_eq_true_eq, Bool.not_eq_true'] at this
    rcases this with h | h
    · omega
    · exact h
/-- Take number i first. -/
theorem wpAnyT_take {n i : Nat} {oi : Oper} {v : Value} {f : Nat} {listed : Array Bool} {a : Act} {w : World} {L : Array Bool → Act → World → Prop} (hO : HeadOK md ops n) (hi : ops[i]? = some oi)
    (hk : (decide (i < n) && listedB md ops n listed && Region.free md ops listed i && (Region.ready md ops listed).contains i) = true)
    (hQ : ∀ c a w, Q (.panic c) (a.put oi.dst v) w → Q (.panic c) a w) (hy : YieldsIf P ops S oi v a) (hS : S w)
    (h : wpAnyT P md ops Q S n L f (listed.setIfInBounds i true) (a.put oi.dst v) w) : wpAnyT P md ops Q S n L (f + 1) listed a w := by
  simp only [Bool.and_eq_true, decide_eq_true_eq] at hk
  obtain ⟨⟨⟨h1, h2⟩, h3⟩, h4⟩ := hk
  exact wpAnyT_first hi (Region.noSelect_spec hO.sel) hO.sink hO.chain hO.lt h1 hQ f listed a w (headInv_of h2) (Region.free_spec hi h3) (by simpa using h4) hy hS h
/-- Take number i first; its slot is written out. -/
theorem wpAnyT_takeD {n i : Nat} {oi : Oper} {d : Option Tmp} {v : Value} {f : Nat} {listed : Array Bool} {a : Act} {w : World} {L : Array Bool → Act → World → Prop} (hO : HeadOK md ops n) (hi : ops[i]? = some oi) (hd : oi.dst = d)
    (hk : (decide (i < n) && listedB md ops n listed && Region.free md ops listed i && (Region.ready md ops listed).contains i) = true)
    (hQ : ∀ c a w, Q (.panic c) (a.put d v) w → Q (.panic c) a w) (hy : YieldsIf P ops S oi v a) (hS : S w)
    (h : wpAnyT P md ops Q S n L f (listed.setIfInBounds i true) (a.put d v) w) : wpAnyT P md ops Q S n L (f + 1) listed a w := by
  subst hd
  exact wpAnyT_take hO hi hk hQ hy hS h
/-- Number i alone may come up. -/
theorem wpAnyT_one {n i : Nat} {oi : Oper} {f : Nat} {listed : Array Bool} {a : Act} {w : World} {L : Array Bool → Act → World → Prop} (hi : ops[i]? = some oi)
    (hk : decide (Region.ready md ops listed = [i] ∧ i < n) = true) (hw : Region.wanted oi (yielded ops a.tmps) = true)
    (h : ∀ K : Act → World → Prop, Shut (∀ a' w', S w' → (S w' → wpAnyT P md ops Q S n L f (listed.setIfInBounds i true) a' w') → K a' w') → Oper.wp P oi a w K Q) : wpAnyT P md ops Q S n L (f + 1) listed a w := by
  obtain ⟨h1, h2⟩ := of_decide_eq_true hk
  refine ⟨by rw [h1]; simp, fun j hj => ?_⟩
  rw [h1] at hj
  have hji : j = i := by simpa using hj
  subst hji
  refine ⟨h2, ?_⟩
  refine wpOp_step hi (fun K hK => ?_)
  rw [if_pos hw]
  exact h K (fun a' w' hS hW => hK a' w' ⟨hS, hW hS⟩)
/-- The head is done: the tail comes up in its order. -/
theorem wpAnyT_done {n : Nat} {listed : Array Bool} {a : Act} {w : World} {L : Array Bool → Act → World → Prop} (hk : decide (Region.ready md ops listed = [n]) = true) (h : L listed a w) : wpAnyT P md ops Q S n L 0 listed a w :=
  ⟨by rw [of_decide_eq_true hk]; intro j hj; simp only [List.mem_singleton] at hj; omega, h⟩
/-- The beginning. -/
theorem wp_region_head {id : Nat} {a : Act} {w : World} {l : List Oper} (n : Nat) (S : World → Prop) (hm : P.follows .mixedOrders = true) (hB : headB .any l.toArray n = true) (hS : S w.drew)
    (h : HeadOK .any l.toArray n → S w.drew → wpAnyT P .any l.toArray Q S n (fun listed a' w' => Region.seqB .any l.toArray (l.drop n).length n listed = true ∧ wpList P l.toArray Q (l.drop n) a' w') n (Array.replicate l.toArray.size false) a w.drew) :
    (Code.region id l.toArray true).wp P Q a w := by
  have hO := headOK hB
  refine wp_region_any hm ?_
  have hn : n < l.length := by simpa using hO.lt
  have := wpAny_of_T (P := P) (md := .any) (ops := l.toArray) (Q := Q) (S := S) (n := n) (g := (l.drop n).length) (fun listed a' w' hL => wpAny_of_seq (md := .any) (Q' := Q) (l.drop n) n listed a' w' (fun j => by simp [List.getElem?_drop]) hL.1 hL.2) n _ _ _ (h hO hS)
  rwa [show n + (l.drop n).length = l.toArray.size by simp; omega] at this
end
end Go.Proofs.YtmmcadbkmfjcbaaDoor
