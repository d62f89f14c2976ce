/-
  How a memory lies in the heap: its own block, a ring of elements, a map from keys to elements; and what removing and adding does to that.
-/
import Derived.Test.YtkloaadaicklfaaH1
namespace Go.Proofs.Ytkloaadaicklfaa
open Go.RowKit

structure Kept where
  key : Own
  size : Int
  pinned : Bool

def usedOf (xs : List Kept) : Int := (xs.map (·.size)).sum
def pinOf (x : Kept) : Int := if x.pinned then x.size else 0
def pinnedOf (xs : List Kept) : Int := (xs.map pinOf).sum

theorem usedOf_append (a b : List Kept) : usedOf (a ++ b) = usedOf a + usedOf b := by simp [usedOf]
theorem usedOf_cons (a : Kept) (b : List Kept) : usedOf (a :: b) = a.size + usedOf b := by simp [usedOf]
theorem pinnedOf_append (a b : List Kept) : pinnedOf (a ++ b) = pinnedOf a + pinnedOf b := by simp [pinnedOf]
theorem pinnedOf_cons (a : Kept) (b : List Kept) : pinnedOf (a :: b) = pinOf a + pinnedOf b := by simp [pinnedOf]

def ElemVal (w : World) (b : Nat) (x : Kept) : Prop :=
  w.cell? (at_ b 0) = some (.int .i64 x.key.f) ∧ w.cell? (at_ b 1) = some (.int .i64 x.key.k) ∧ w.cell? (at_ b 2) = some (.int .i64 x.key.n) ∧
  w.cell? (at_ b 3) = some (.int .i64 x.key.r) ∧ w.cell? (at_ b 4) = some (.int .i64 x.size) ∧ w.cell? (at_ b 5) = some (.bool x.pinned)

theorem ElemVal.of {w w' : World} {b : Nat} {x : Kept} (h : ElemVal w b x) (he : ∀ o, o < 6 → w'.cell? (at_ b o) = w.cell? (at_ b o)) : ElemVal w' b x := by
  obtain ⟨h0, h1, h2, h3, h4, h5⟩ := h
  exact ⟨(he 0 (by omega)).trans h0, (he 1 (by omega)).trans h1, (he 2 (by omega)).trans h2, (he 3 (by omega)).trans h3, (he 4 (by omega)).trans h4, (he 5 (by omega)).trans h5⟩

abbrev blks (es : List (Nat × Kept)) : List Nat := es.map (·.1)
abbrev kepts (es : List (Nat × Kept)) : List Kept := es.map (·.2)
abbrev keysOf (es : List (Nat × Kept)) : List Own := es.map (·.2.key)

/-- The ring: the head bh, the elements es in order. -/
structure Ring (w : World) (bh : Nat) (es : List (Nat × Kept)) : Prop where
  nodup : (bh :: blks es).Nodup
  rows : ∀ b ∈ bh :: blks es, Row w b 8 78
  links : Links 6 7 w (bh :: (blks es ++ [bh]))
  vals : ∀ p ∈ es, ElemVal w p.1 p.2

/-- The map of a memory. -/
def Index (w : World) (bk : Nat) (es : List (Nat × Kept)) : Prop :=
  ∃ l, MapAs w bk l ∧ (l.map (·.1)).Nodup ∧ ∀ o v, mget l o = some v ↔ ∃ p ∈ es, p.2.key = o ∧ v = ptr p.1

structure MRep (w : World) (bm bh bk : Nat) (B : Int) (es : List (Nat × Kept)) : Prop where
  apart : bm ≠ bk ∧ bm ≠ bh ∧ bk ≠ bh ∧ (∀ p ∈ es, p.1 ≠ bm) ∧ (∀ p ∈ es, p.1 ≠ bk)
  self : w.heap[bm]? = some (.cells #[.int .i64 B, .int .i64 (usedOf (kepts es)), .int .i64 (pinnedOf (kepts es)), ptr bh, .map (some bk)] 65 (0, 0))
  ring : Ring w bh es
  index : Index w bk es
  keys : (keysOf es).Nodup

/-- Bounds of what is kept. -/
structure Bounds (B : Int) (es : List (Nat × Kept)) : Prop where
  lo : 0 ≤ B
  hi : B ≤ 1073741824
  size : ∀ p ∈ es, 0 ≤ p.2.size ∧ p.2.size ≤ 65536
  used : usedOf (kepts es) ≤ B

/-- The blocks of a memory. -/
def Foot (bm bh bk : Nat) (es : List (Nat × Kept)) (b : Nat) : Prop := b = bm ∨ b = bh ∨ b = bk ∨ b ∈ blks es

theorem MapAs.of {w w' : World} {r : Nat} {l : List (Own × Value)} (h : MapAs w r l) (he : w'.heap[r]? = w.heap[r]?) : MapAs w' r l := by
  obtain ⟨es, c, h1, h2⟩ := h
  exact ⟨es, c, he.trans h1, h2⟩
theorem MapAs.lt {w : World} {r : Nat} {l : List (Own × Value)} (h : MapAs w r l) : r < w.heap.size := by obtain ⟨es, c, h1, _⟩ := h; exact lt_of_heap h1
theorem Index.of {w w' : World} {r : Nat} {es : List (Nat × Kept)} (h : Index w r es) (he : w'.heap[r]? = w.heap[r]?) : Index w' r es := by
  obtain ⟨l, h1, h2⟩ := h
  exact ⟨l, h1.of he, h2⟩
theorem Ring.of {w w' : World} {bh : Nat} {es : List (Nat × Kept)} (h : Ring w bh es) (he : ∀ b ∈ bh :: blks es, w'.heap[b]? = w.heap[b]?) : Ring w' bh es := by
  have hc : ∀ b ∈ bh :: blks es, ∀ o, w'.cell? (at_ b o) = w.cell? (at_ b o) := fun b hb o => World.cell?_of_block (w := w) (he b hb)
  refine ⟨h.nodup, fun b hb => (h.rows b hb).of_eq (he b hb), h.links.kept (fun a ha => hc a ?_ _) (fun a ha => hc a ?_ _), fun p hp => (h.vals p hp).of (fun o _ => hc _ ?_ _)⟩
  · rw [show bh :: (blks es ++ [bh]) = (bh :: blks es) ++ [bh] from rfl, List.dropLast_concat] at ha
    exact ha
  · simp only [List.tail_cons, List.mem_append, List.mem_singleton] at ha
    rcases ha with ha | rfl
    · exact List.mem_cons_of_mem _ ha
    · simp
  · exact List.mem_cons_of_mem _ (List.mem_map_of_mem hp)

theorem MRep.lt {w : World} {bm bh bk : Nat} {B : Int} {es : List (Nat × Kept)} (h : MRep w bm bh bk B es) {b : Nat} (hb : Foot bm bh bk es b) : b < w.heap.size := by
  rcases hb with rfl | rfl | rfl | hb
  · exact lt_of_heap h.self
  · exact (h.ring.rows _ (by simp)).lt
  · obtain ⟨l, h1, _⟩ := h.index; exact h1.lt
  · exact (h.ring.rows _ (List.mem_cons_of_mem _ hb)).lt

theorem MRep.of {w w' : World} {bm bh bk : Nat} {B : Int} {es : List (Nat × Kept)} (h : MRep w bm bh bk B es) (he : ∀ b, Foot bm bh bk es b → w'.heap[b]? = w.heap[b]?) : MRep w' bm bh bk B es := by
  refine ⟨h.apart, (he bm (.inl rfl)).trans h.self, h.ring.of fun b hb => he b ?_, h.index.of (he bk (.inr (.inr (.inl rfl)))), h.keys⟩
  rcases List.mem_cons.1 hb with rfl | hb
  · exact .inr (.inl rfl)
  · exact .inr (.inr (.inr hb))

theorem MRep.ext {w w' : World} {bm bh bk : Nat} {B : Int} {es : List (Nat × Kept)} (h : MRep w bm bh bk B es) {S : Nat → Prop} (he : Ext S w w') (hs : ∀ b, Foot bm bh bk es b → ¬ S b) : MRep w' bm bh bk B es :=
  h.of fun b hb => he.block b (h.lt hb) (hs b hb)

/-- Behind 'leave'. -/
def leftW (w : World) (bp bn : Nat) : World := (w.setCell (at_ bp 7) (ptr bn)).setCell (at_ bn 6) (ptr bp)

/-- The neighbours of an element. -/
def prevOf (bh : Nat) (l : List (Nat × Kept)) : Nat := (bh :: blks l).getLastD bh
def nextOf (bh : Nat) (r : List (Nat × Kept)) : Nat := (blks r ++ [bh]).headD bh

theorem prevOf_split (bh : Nat) (l : List (Nat × Kept)) : ∃ i, bh :: blks l = i ++ [prevOf bh l] := by
  refine ⟨(bh :: blks l).dropLast, ?_⟩
  unfold prevOf
  rw [List.getLastD_eq_getLast?, List.getLast?_eq_some_getLast (by simp), Option.getD_some]
  exact (List.dropLast_concat_getLast (by simp)).symm
theorem nextOf_split (bh : Nat) (r : List (Nat × Kept)) : ∃ t, blks r ++ [bh] = nextOf bh r :: t := by
  cases r with
  | nil => exact ⟨[], rfl⟩
  | cons a r => exact ⟨blks r ++ [bh], rfl⟩

theorem Ring.at {w : World} {bh : Nat} {l r : List (Nat × Kept)} {p : Nat × Kept} (h : Ring w bh (l ++ p :: r)) :
    w.cell? (at_ p.1 6) = some (ptr (prevOf bh l)) ∧ w.cell? (at_ p.1 7) = some (ptr (nextOf bh r)) ∧
    w.cell? (at_ (prevOf bh l) 7) = some (ptr p.1) ∧ w.cell? (at_ (nextOf bh r) 6) = some (ptr p.1) := by
  obtain ⟨i, hi⟩ := prevOf_split bh l
  obtain ⟨t, ht⟩ := nextOf_split bh r
  have hl := h.links
  have e : bh :: (blks (l ++ p :: r) ++ [bh]) = i ++ prevOf bh l :: (p.1 :: nextOf bh r :: t) := by
    rw [show bh :: (blks (l ++ p :: r) ++ [bh]) = (bh :: blks l) ++ p.1 :: (blks r ++ [bh]) from by simp, hi, ht]
    simp
  rw [e, Links.append] at hl
  obtain ⟨_, h1, h2, h3, h4, _⟩ := hl
  exact ⟨h2, h3, h1, h4⟩

theorem prevOf_mem (bh : Nat) (l : List (Nat × Kept)) : prevOf bh l ∈ bh :: blks l := by
  obtain ⟨i, hi⟩ := prevOf_split bh l
  rw [hi]; simp
theorem nextOf_mem (bh : Nat) (r : List (Nat × Kept)) : nextOf bh r ∈ bh :: blks r := by
  obtain ⟨t, ht⟩ := nextOf_split bh r
  have : nextOf bh r ∈ blks r ++ [bh] := by rw [ht]; simp
  simpa [or_comm] using this

/-- An element leaves its ring. -/
theorem Ring.leave {w : World} {bh : Nat} {l r : List (Nat × Kept)} {p : Nat × Kept} (h : Ring w bh (l ++ p :: r)) :
    Ring (leftW w (prevOf bh l) (nextOf bh r)) bh (l ++ r) ∧ ElemVal (leftW w (prevOf bh l) (nextOf bh r)) p.1 p.2 := by
  obtain ⟨i, hi⟩ := prevOf_split bh l
  obtain ⟨t, ht⟩ := nextOf_split bh r
  have hnd : (bh :: (blks l ++ p.1 :: blks r)).Nodup := by simpa [blks] using h.nodup
  have hnd1 : ((bh :: blks l) ++ p.1 :: blks r).Nodup := hnd
  have hpre := prevOf_mem bh l
  have hnxt := nextOf_mem bh r
  have hrp : Row w (prevOf bh l) 8 78 := h.rows _ (by simp only [blks, List.map_append, List.map_cons, List.mem_cons, List.mem_append] at hpre ⊢; rcases hpre with h | h <;> simp [h])
  have hrn : Row w (nextOf bh r) 8 78 := h.rows _ (by simp only [blks, List.map_append, List.map_cons, List.mem_cons, List.mem_append] at hnxt ⊢; rcases hnxt with h | h <;> simp [h])
  have hval : ∀ b x, ElemVal w b x → ElemVal (leftW w (prevOf bh l) (nextOf bh r)) b x := fun b x hx => hx.of fun o ho => by
    unfold leftW
    rw [cell_setCell_ne _ _ _ _ _ _ (.inr (by omega)), cell_setCell_ne _ _ _ _ _ _ (.inr (by omega))]
  refine ⟨⟨?_, ?_, ?_, ?_⟩, hval _ _ (h.vals p (by simp))⟩
  · refine List.Nodup.sublist ?_ hnd
    simp only [blks, List.map_append]
    exact List.Sublist.cons_cons _ (List.Sublist.append (List.Sublist.refl _) (List.sublist_cons_self _ _))
  · intro b hb
    unfold leftW
    refine ((h.rows b ?_).setCell _ _ _).setCell _ _ _
    simp only [blks, List.map_append, List.map_cons, List.mem_cons, List.mem_append] at hb ⊢
    rcases hb with h | h | h <;> simp [h]
  · have e0 : bh :: (blks (l ++ p :: r) ++ [bh]) = i ++ prevOf bh l :: (p.1 :: nextOf bh r :: t) := by
      rw [show bh :: (blks (l ++ p :: r) ++ [bh]) = (bh :: blks l) ++ p.1 :: (blks r ++ [bh]) from by simp, hi, ht]
      simp
    have e1 : bh :: (blks (l ++ r) ++ [bh]) = i ++ prevOf bh l :: nextOf bh r :: t := by
      rw [show bh :: (blks (l ++ r) ++ [bh]) = (bh :: blks l) ++ (blks r ++ [bh]) from by simp, hi, ht]
      simp
    have hl := h.links
    rw [e0, Links.append] at hl
    obtain ⟨g1, _, _, _, _, g2⟩ := hl
    rw [e1, Links.append]
    -- heads of pairs: without repetition; ends of pairs: without repetition
    have d1 : ((i ++ [prevOf bh l]) ++ p.1 :: blks r).Nodup := by rw [← hi]; exact hnd1
    have d2 : (blks l ++ p.1 :: (nextOf bh r :: t)).Nodup := by
      rw [← ht]
      have : (bh :: (blks l ++ p.1 :: blks r)).Perm (blks l ++ p.1 :: (blks r ++ [bh])) := by
        have := (List.perm_append_comm (l₁ := [bh]) (l₂ := blks l ++ p.1 :: blks r))
        simpa using this
      exact this.nodup_iff.1 hnd
    have hni : prevOf bh l ∉ i := by
      have := (List.nodup_append.1 (List.nodup_append.1 d1).1).2.2
      intro hx
      exact this _ hx _ (by simp) rfl
    have hnt : nextOf bh r ∉ t := by
      have := (List.nodup_append.1 d2).2.1
      have := (List.nodup_cons.1 this).2
      exact (List.nodup_cons.1 this).1
    have hnl : nextOf bh r ∉ blks l := by
      have := (List.nodup_append.1 d2).2.2
      intro hx
      exact this _ hx _ (by simp) rfl
    have hpr : prevOf bh l ∉ p.1 :: blks r := by
      have := (List.nodup_append.1 d1).2.2
      intro hx
      exact this _ (by simp) _ hx rfl
    have c7 : ∀ a, a ≠ prevOf bh l → (leftW w (prevOf bh l) (nextOf bh r)).cell? (at_ a 7) = w.cell? (at_ a 7) := fun a ha => by
      unfold leftW
      rw [cell_setCell_ne _ _ _ _ _ _ (.inr (by omega)), cell_setCell_ne _ _ _ _ _ _ (.inl (Ne.symm ha))]
    have c6 : ∀ a, a ≠ nextOf bh r → (leftW w (prevOf bh l) (nextOf bh r)).cell? (at_ a 6) = w.cell? (at_ a 6) := fun a ha => by
      unfold leftW
      rw [cell_setCell_ne _ _ _ _ _ _ (.inl (Ne.symm ha)), cell_setCell_ne _ _ _ _ _ _ (.inr (by omega))]
    refine ⟨g1.kept (fun a ha => c7 a ?_) (fun a ha => c6 a ?_), ?_, ?_, g2.kept (fun a ha => c7 a ?_) (fun a ha => c6 a ?_)⟩
    · rw [List.dropLast_concat] at ha
      rintro rfl; exact hni ha
    · rw [← hi, List.tail_cons] at ha
      rintro rfl; exact hnl ha
    · unfold leftW
      rw [cell_setCell_ne _ _ _ _ _ _ (.inr (by omega))]
      exact hrp.cell_setCell (by omega) _
    · exact (hrn.setCell _ _ _).cell_setCell (by omega) _
    · have : a ∈ blks r := by
        have h5 : (nextOf bh r :: t).dropLast = blks r := by rw [← ht, List.dropLast_concat]
        rw [← h5]; exact ha
      rintro rfl; exact hpr (List.mem_cons_of_mem _ this)
    · rw [List.tail_cons] at ha
      rintro rfl; exact hnt ha
  · intro q hq
    refine hval _ _ (h.vals q ?_)
    simp only [List.mem_append, List.mem_cons] at hq ⊢
    rcases hq with h | h <;> simp [h]

/-- Behind 'last'. -/
def lastW (w : World) (be bh bp : Nat) : World :=
  (((w.setCell (at_ be 6) (ptr bp)).setCell (at_ be 7) (ptr bh)).setCell (at_ bp 7) (ptr be)).setCell (at_ bh 6) (ptr be)

/-- An element comes to a ring's end. -/
theorem Ring.last {w : World} {bh be : Nat} {es : List (Nat × Kept)} {x : Kept} (h : Ring w bh es) (hr : Row w be 8 78) (hv : ElemVal w be x) (hn : be ∉ bh :: blks es) :
    Ring (lastW w be bh (prevOf bh es)) bh (es ++ [(be, x)]) := by
  obtain ⟨i, hi⟩ := prevOf_split bh es
  have hpre := prevOf_mem bh es
  have hval : ∀ b x, ElemVal w b x → ElemVal (lastW w be bh (prevOf bh es)) b x := fun b x hx => hx.of fun o ho => by
    unfold lastW
    rw [cell_setCell_ne _ _ _ _ _ _ (.inr (by omega)), cell_setCell_ne _ _ _ _ _ _ (.inr (by omega)), cell_setCell_ne _ _ _ _ _ _ (.inr (by omega)), cell_setCell_ne _ _ _ _ _ _ (.inr (by omega))]
  have hrow : ∀ b, Row w b 8 78 → Row (lastW w be bh (prevOf bh es)) b 8 78 := fun b hb => (((hb.setCell _ _ _).setCell _ _ _).setCell _ _ _).setCell _ _ _
  have hb1 : be ≠ bh := fun e => hn (by simp [e])
  have hb2 : be ≠ prevOf bh es := fun e => hn (e ▸ hpre)
  refine ⟨?_, ?_, ?_, ?_⟩
  · rw [show bh :: blks (es ++ [(be, x)]) = (bh :: blks es) ++ [be] from by simp]
    rw [List.nodup_append]
    refine ⟨h.nodup, by simp, ?_⟩
    intro a ha b hb
    simp only [List.mem_singleton] at hb
    subst hb
    rintro rfl; exact hn ha
  · intro b hb
    rw [show bh :: blks (es ++ [(be, x)]) = (bh :: blks es) ++ [be] from by simp, List.mem_append] at hb
    rcases hb with hb | hb
    · exact hrow _ (h.rows b hb)
    · simp only [List.mem_singleton] at hb; subst hb; exact hrow _ hr
  · have e1 : bh :: (blks (es ++ [(be, x)]) ++ [bh]) = i ++ prevOf bh es :: be :: [bh] := by
      rw [show bh :: (blks (es ++ [(be, x)]) ++ [bh]) = (bh :: blks es) ++ [be, bh] from by simp, hi]
      simp
    have hl := h.links
    have e0 : bh :: (blks es ++ [bh]) = i ++ prevOf bh es :: [bh] := by
      rw [show bh :: (blks es ++ [bh]) = (bh :: blks es) ++ [bh] from rfl, hi]; simp
    rw [e0, Links.append] at hl
    obtain ⟨g1, _⟩ := hl
    rw [e1, Links.append]
    have d1 : (i ++ [prevOf bh es]).Nodup := by rw [← hi]; exact h.nodup
    have hni : prevOf bh es ∉ i := by
      have := (List.nodup_append.1 d1).2.2
      intro hx
      exact this _ hx _ (by simp) rfl
    have c7 : ∀ a, a ≠ prevOf bh es → a ≠ be → (lastW w be bh (prevOf bh es)).cell? (at_ a 7) = w.cell? (at_ a 7) := fun a ha hb => by
      unfold lastW
      rw [cell_setCell_ne _ _ _ _ _ _ (.inr (by omega)), cell_setCell_ne _ _ _ _ _ _ (.inl (Ne.symm ha)), cell_setCell_ne _ _ _ _ _ _ (.inl (Ne.symm hb)), cell_setCell_ne _ _ _ _ _ _ (.inr (by omega))]
    have c6 : ∀ a, a ≠ bh → a ≠ be → (lastW w be bh (prevOf bh es)).cell? (at_ a 6) = w.cell? (at_ a 6) := fun a ha hb => by
      unfold lastW
      rw [cell_setCell_ne _ _ _ _ _ _ (.inl (Ne.symm ha)), cell_setCell_ne _ _ _ _ _ _ (.inr (by omega)), cell_setCell_ne _ _ _ _ _ _ (.inr (by omega)), cell_setCell_ne _ _ _ _ _ _ (.inl (Ne.symm hb))]
    have hib : ∀ a ∈ i, a ≠ be := fun a ha e => hn (by rw [hi]; simp [← e, ha])
    refine ⟨g1.kept (fun a ha => ?_) (fun a ha => ?_), ?_, ?_, ?_, ?_, trivial⟩
    · rw [List.dropLast_concat] at ha
      exact c7 a (fun e => hni (e ▸ ha)) (hib a ha)
    · rw [← hi, List.tail_cons] at ha
      refine c6 a (fun e => ?_) (fun e => hn (e ▸ List.mem_cons_of_mem _ ha))
      exact (List.nodup_cons.1 h.nodup).1 (e ▸ ha)
    · unfold lastW
      rw [cell_setCell_ne _ _ _ _ _ _ (.inr (by omega))]
      exact (((h.rows _ hpre).setCell _ _ _).setCell _ _ _).cell_setCell (by omega) _
    · unfold lastW
      rw [cell_setCell_ne _ _ _ _ _ _ (.inl (Ne.symm hb1)), cell_setCell_ne _ _ _ _ _ _ (.inr (by omega)), cell_setCell_ne _ _ _ _ _ _ (.inr (by omega))]
      exact hr.cell_setCell (by omega) _
    · unfold lastW
      rw [cell_setCell_ne _ _ _ _ _ _ (.inr (by omega)), cell_setCell_ne _ _ _ _ _ _ (.inl (Ne.symm hb2))]
      exact (hr.setCell _ _ _).cell_setCell (by omega) _
    · unfold lastW
      exact ((((h.rows bh (by simp)).setCell _ _ _).setCell _ _ _).setCell _ _ _).cell_setCell (by omega) _
  · intro q hq
    rcases List.mem_append.1 hq with hq | hq
    · exact hval _ _ (h.vals q hq)
    · simp only [List.mem_singleton] at hq; subst hq; exact hval _ _ hv

theorem mget_append (o : Own) : ∀ (l r : List (Own × Value)), mget (l ++ r) o = match mget l o with | some v => some v | none => mget r o
  | [], r => rfl
  | p :: l, r => by
    rw [List.cons_append, mget_cons, mget_cons]
    split
    · rfl
    · exact mget_append o l r
theorem mget_none_iff (o : Own) : ∀ (l : List (Own × Value)), mget l o = none ↔ o ∉ l.map (·.1)
  | [] => by simp [mget_nil]
  | p :: l => by
    rw [mget_cons, List.map_cons, List.mem_cons]
    split
    · rename_i e; simp [e]
    · rename_i e; rw [mget_none_iff o l]; simp [e]
theorem lookAt_split {o : Own} {l : List (Own × Value)} {i : Nat} {v : Value} (h : lookAt o l 0 = some (i, v)) : ∃ a b, l = a ++ (o, v) :: b ∧ a.length = i := by
  have ⟨_, h2⟩ := lookAt_some h
  rw [Nat.sub_zero] at h2
  have hi : i < l.length := by
    rcases Nat.lt_or_ge i l.length with g | g
    · exact g
    · rw [List.getElem?_eq_none g] at h2; simp at h2
  have h3 : l[i] = (o, v) := by rw [List.getElem?_eq_getElem hi] at h2; simpa using h2
  exact ⟨l.take i, l.drop (i + 1), by rw [← h3, List.getElem_cons_drop, List.take_append_drop], by simp; omega⟩

theorem mput_keys (l : List (Own × Value)) (o : Own) (v : Value) : (mput l o v).map (·.1) = if o ∈ l.map (·.1) then l.map (·.1) else l.map (·.1) ++ [o] := by
  unfold mput
  cases h : lookAt o l 0 with
  | none =>
    have : o ∉ l.map (·.1) := (mget_none_iff o l).1 (by simp [mget, h])
    simp only [this, if_false]; simp
  | some p =>
    obtain ⟨i, x⟩ := p
    obtain ⟨a, b, rfl, rfl⟩ := lookAt_split h
    simp
theorem mput_nodup {l : List (Own × Value)} (h : (l.map (·.1)).Nodup) (o : Own) (v : Value) : ((mput l o v).map (·.1)).Nodup := by
  rw [mput_keys]
  split
  · exact h
  · rename_i g
    rw [List.nodup_append]
    refine ⟨h, by simp, ?_⟩
    intro a ha b hb
    simp only [List.mem_singleton] at hb
    subst hb
    rintro rfl; exact g ha
theorem mget_mput (l : List (Own × Value)) (o o' : Own) (v : Value) : mget (mput l o v) o' = if o' = o then some v else mget l o' := by
  unfold mput
  cases h : lookAt o l 0 with
  | none =>
    simp only [mget_append, mget_cons, mget_nil]
    have : mget l o = none := by simp [mget, h]
    by_cases e : o' = o
    · subst e; simp [this]
    · simp only [e, if_false]; cases mget l o' <;> rfl
  | some p =>
    obtain ⟨i, x⟩ := p
    have hget : mget l o = some x := by simp [mget, h]
    obtain ⟨a, b, rfl, rfl⟩ := lookAt_split h
    have hna : mget a o = none := by
      cases ha : mget a o with
      | none => rfl
      | some y =>
        exfalso
        unfold mget at ha
        cases hl : lookAt o a 0 with
        | none => simp [hl] at ha
        | some q =>
          have hj := (lookAt_some hl).2
          have : ∀ (a b : List (Own × Value)) (i : Nat) (q : Nat × Value), lookAt o a i = some q → lookAt o (a ++ b) i = some q := by
            intro a b
            induction a with
            | nil => intro i q h; simp [lookAt] at h
            | cons c a ih =>
              intro i q h
              simp only [List.cons_append, lookAt] at h ⊢
              split
              · rename_i e; simpa [e] using h
              · rename_i e; simp only [e, if_false] at h; exact ih _ _ h
          have hx := this a ((o, x) :: b) 0 q hl
          rw [h] at hx
          simp only [Option.some.injEq] at hx
          subst hx
          simp only [Nat.sub_zero] at hj
          rw [List.getElem?_eq_none (Nat.le_refl _)] at hj
          simp at hj
    show mget ((a ++ (o, x) :: b).set a.length (o, v)) o' = _
    rw [List.set_append_right _ _ (Nat.le_refl _), Nat.sub_self, List.set_cons_zero, mget_append, mget_append, mget_cons, mget_cons]
    by_cases e : o' = o
    · subst e; simp [hna]
    · simp [e]

theorem mdel_spec {l : List (Own × Value)} (h : (l.map (·.1)).Nodup) (o : Own) : ((mdel l o).map (·.1)).Nodup ∧ ∀ o', mget (mdel l o) o' = if o' = o then none else mget l o' := by
  unfold mdel
  cases hl : lookAt o l 0 with
  | none =>
    refine ⟨h, fun o' => ?_⟩
    have : mget l o = none := by simp [mget, hl]
    by_cases e : o' = o
    · subst e; simp [this]
    · simp [e]
  | some p =>
    obtain ⟨i, x⟩ := p
    obtain ⟨a, b, rfl, rfl⟩ := lookAt_split hl
    simp only [List.eraseIdx_append_of_length_le (Nat.le_refl _), Nat.sub_self, List.eraseIdx_cons_zero]
    simp only [List.map_append, List.map_cons] at h ⊢
    rw [List.nodup_append] at h
    obtain ⟨h1, h2, h3⟩ := h
    obtain ⟨h4, h5⟩ := List.nodup_cons.1 h2
    refine ⟨List.nodup_append.2 ⟨h1, h5, fun u hu v hv => h3 u hu v (List.mem_cons_of_mem _ hv)⟩, fun o' => ?_⟩
    rw [mget_append, mget_append, mget_cons]
    by_cases e : o' = o
    · subst e
      have ha : mget a o' = none := (mget_none_iff _ _).2 fun hx => h3 _ hx _ (by simp) rfl
      have hb : mget b o' = none := (mget_none_iff _ _).2 h4
      simp [ha, hb]
    · simp [e]

theorem mdel_length {l : List (Own × Value)} (o : Own) : (mdel l o).length = if (mget l o).isSome then l.length - 1 else l.length := by
  unfold mdel mget
  cases hl : lookAt o l 0 with
  | none => simp
  | some p =>
    obtain ⟨i, x⟩ := p
    obtain ⟨a, b, rfl, rfl⟩ := lookAt_split hl
    simp only [List.eraseIdx_append_of_length_le (Nat.le_refl _)]
    simp
theorem mput_length {l : List (Own × Value)} (o : Own) (v : Value) : (mput l o v).length = if (mget l o).isSome then l.length else l.length + 1 := by
  unfold mput mget
  cases hl : lookAt o l 0 with
  | none => simp
  | some p =>
    obtain ⟨i, x⟩ := p
    simp

theorem Index.del {w' : World} {bk : Nat} {l r : List (Nat × Kept)} {p : Nat × Kept} {m : List (Own × Value)} (h : ∀ o v, mget m o = some v ↔ ∃ q ∈ l ++ p :: r, q.2.key = o ∧ v = ptr q.1)
    (hn : (m.map (·.1)).Nodup) (hk : (keysOf (l ++ p :: r)).Nodup) (hm : MapAs w' bk (mdel m p.2.key)) : Index w' bk (l ++ r) := by
  obtain ⟨h1, h2⟩ := mdel_spec hn p.2.key
  refine ⟨_, hm, h1, fun o v => ?_⟩
  rw [h2]
  have hk' : p.2.key ∉ keysOf (l ++ r) := by
    intro hx
    simp only [keysOf, List.map_append, List.map_cons] at hk hx
    rw [List.nodup_append] at hk
    obtain ⟨_, k2, k3⟩ := hk
    rcases List.mem_append.1 hx with hx | hx
    · exact k3 _ hx _ (by simp) rfl
    · exact (List.nodup_cons.1 k2).1 hx
  by_cases e : o = p.2.key
  · subst e
    simp only [if_true]
    constructor
    · intro h; simp at h
    · rintro ⟨q, hq, hqk, _⟩
      exact absurd (List.mem_map.2 ⟨q, hq, hqk⟩) hk'
  · simp only [e, if_false]
    rw [h]
    constructor
    · rintro ⟨q, hq, rfl, hv⟩
      refine ⟨q, ?_, rfl, hv⟩
      simp only [List.mem_append, List.mem_cons] at hq ⊢
      rcases hq with hq | rfl | hq
      · exact .inl hq
      · exact absurd rfl e
      · exact .inr hq
    · rintro ⟨q, hq, rfl, hv⟩
      refine ⟨q, ?_, rfl, hv⟩
      simp only [List.mem_append, List.mem_cons] at hq ⊢
      rcases hq with hq | hq
      · exact .inl hq
      · exact .inr (.inr hq)

theorem Index.put {w' : World} {bk b : Nat} {es : List (Nat × Kept)} {x : Kept} {m : List (Own × Value)} (h : ∀ o v, mget m o = some v ↔ ∃ q ∈ es, q.2.key = o ∧ v = ptr q.1)
    (hn : (m.map (·.1)).Nodup) (hk : x.key ∉ keysOf es) (hm : MapAs w' bk (mput m x.key (ptr b))) : Index w' bk (es ++ [(b, x)]) := by
  refine ⟨_, hm, mput_nodup hn _ _, fun o v => ?_⟩
  rw [mget_mput]
  by_cases e : o = x.key
  · subst e
    simp only [if_true]
    constructor
    · intro hv
      simp only [Option.some.injEq] at hv
      exact ⟨(b, x), by simp, rfl, hv.symm⟩
    · rintro ⟨q, hq, hqk, hv⟩
      rcases List.mem_append.1 hq with hq | hq
      · exact absurd (List.mem_map.2 ⟨q, hq, hqk⟩) hk
      · simp only [List.mem_singleton] at hq; subst hq; rw [hv]
  · simp only [e, if_false]
    rw [h]
    constructor
    · rintro ⟨q, hq, h2⟩; exact ⟨q, List.mem_append.2 (.inl hq), h2⟩
    · rintro ⟨q, hq, rfl, hv⟩
      rcases List.mem_append.1 hq with hq | hq
      · exact ⟨q, hq, rfl, hv⟩
      · simp only [List.mem_singleton] at hq; subst hq; exact absurd rfl e

end Go.Proofs.Ytkloaadaicklfaa
