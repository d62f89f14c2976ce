/-
  What the acts of a memory do to the list of what is kept: plain laws on lists.
-/
import Derived.Test.YtkloaadaicklfaaR6
namespace Go.Proofs.Ytkloaadaicklfaa
open Go.RowKit

def getK (xs : List Kept) (o : Own) : Option Kept := xs.find? fun x => decide (x.key = o)
def keysK (xs : List Kept) : List Own := xs.map (·.key)
def pinFlag (xs : List Kept) (o : Own) : Bool := match getK xs o with | some x => x.pinned | none => false
def putA (B : Int) (xs : List Kept) (o : Own) (s : Int) : List Own × Int × List Kept :=
  if s < 0 ∨ 65536 < s then ([], 1, xs)
  else if B < pinnedOf (restK o xs) + s then ([], 50, xs)
  else ((evictK B (usedOf (restK o xs) + s) (restK o xs)).1, 0, (evictK B (usedOf (restK o xs) + s) (restK o xs)).2 ++ [⟨o, s, pinFlag xs o⟩])
def useA (xs : List Kept) (o : Own) : Bool × List Kept :=
  match getK xs o with
  | some x => (true, restK o xs ++ [x])
  | none => (false, xs)
def pinA (xs : List Kept) (o : Own) (on : Bool) : Int × List Kept :=
  match getK xs o with
  | some _ => (0, xs.map fun x => if x.key = o then ⟨x.key, x.size, on⟩ else x)
  | none => (5, xs)
def dropA (xs : List Kept) (o : Own) : Int × List Kept :=
  match getK xs o with
  | some x => if x.pinned then (51, xs) else (0, restK o xs)
  | none => (5, xs)

structure KOk (B : Int) (xs : List Kept) : Prop where
  lo : 0 ≤ B
  hi : B ≤ 1073741824
  size : ∀ x ∈ xs, 0 ≤ x.size ∧ x.size ≤ 65536
  used : usedOf xs ≤ B
  keys : (keysK xs).Nodup

theorem getK_none {xs : List Kept} {o : Own} (h : getK xs o = none) : (∀ y ∈ xs, y.key ≠ o) ∧ restK o xs = xs := by
  have h1 : ∀ y ∈ xs, y.key ≠ o := by simpa [getK] using h
  exact ⟨h1, List.filter_eq_self.2 fun y hy => by simpa using h1 y hy⟩
theorem getK_some {xs : List Kept} {o : Own} {x : Kept} (hn : (keysK xs).Nodup) (h : getK xs o = some x) :
    ∃ a b, xs = a ++ x :: b ∧ x.key = o ∧ (∀ y ∈ a, y.key ≠ o) ∧ (∀ y ∈ b, y.key ≠ o) ∧ restK o xs = a ++ b := by
  obtain ⟨hx, a, b, rfl, ha⟩ := List.find?_eq_some_iff_append.1 h
  have hxo : x.key = o := by simpa using hx
  have ha' : ∀ y ∈ a, y.key ≠ o := fun y hy => by simpa using ha y hy
  have hb' : ∀ y ∈ b, y.key ≠ o := by
    intro y hy e
    simp only [keysK, List.map_append, List.map_cons] at hn
    have := (List.nodup_cons.1 (List.nodup_append.1 hn).2.1).1
    exact this (by rw [hxo, ← e]; exact List.mem_map_of_mem hy)
  refine ⟨a, b, rfl, hxo, ha', hb', ?_⟩
  have e1 : a.filter (fun x => decide (x.key ≠ o)) = a := List.filter_eq_self.2 fun y hy => by simpa using ha' y hy
  have e2 : b.filter (fun x => decide (x.key ≠ o)) = b := List.filter_eq_self.2 fun y hy => by simpa using hb' y hy
  simp only [restK, List.filter_append, List.filter_cons, hxo, ne_eq, not_true_eq_false, decide_false, Bool.false_eq_true, if_false]
  simp only [ne_eq] at e1 e2
  rw [e1, e2]

theorem evictK_sub (B : Int) : ∀ (r : List Kept) (u : Int), List.Sublist (evictK B u r).2 r
  | [], _ => List.Sublist.refl _
  | p :: r, u => by
    simp only [evictK]
    split
    · split
      · exact (evictK_sub B r u).cons_cons p
      · exact (evictK_sub B r _).cons p
    · exact List.Sublist.refl _
theorem evictK_fits (B : Int) : ∀ (r : List Kept) (u : Int), pinnedOf r + (u - usedOf r) ≤ B → usedOf (evictK B u r).2 + (u - usedOf r) ≤ B
  | [], u, h => by simpa [evictK, pinnedOf, usedOf] using h
  | p :: r, u, h => by
    simp only [pinnedOf_cons, usedOf_cons] at h
    simp only [evictK]
    split
    · cases hp : p.pinned
      · have e : pinOf p = 0 := by simp [pinOf, hp]
        rw [e] at h
        have := evictK_fits B r (u - p.size) (by omega)
        simp only [Bool.false_eq_true, if_false, usedOf_cons]
        omega
      · have e : pinOf p = p.size := by simp [pinOf, hp]
        rw [e] at h
        have := evictK_fits B r u (by omega)
        simp only [if_true, usedOf_cons]
        omega
    · simp only [usedOf_cons]; omega
theorem evictK_len (B : Int) (r : List Kept) (u : Int) : (evictK B u r).2.length ≤ r.length := (evictK_sub B r u).length_le

theorem evict_kepts (B : Int) : ∀ (es : List (Nat × Kept)) (u : Int), (evict B u es).1 = (evictK B u (kepts es)).1 ∧ kepts (evict B u es).2 = (evictK B u (kepts es)).2
  | [], _ => ⟨rfl, rfl⟩
  | p :: r, u => by
    simp only [evict, List.map_cons, evictK]
    split
    · split
      · obtain ⟨h1, h2⟩ := evict_kepts B r u
        exact ⟨h1, by show p.2 :: kepts (evict B u r).2 = p.2 :: _; rw [h2]⟩
      · obtain ⟨h1, h2⟩ := evict_kepts B r (u - p.2.size)
        exact ⟨by rw [h1], h2⟩
    · exact ⟨rfl, rfl⟩
theorem evict_sub (B : Int) : ∀ (r : List (Nat × Kept)) (u : Int), List.Sublist (evict B u r).2 r
  | [], _ => List.Sublist.refl _
  | p :: r, u => by
    simp only [evict]
    split
    · split
      · exact (evict_sub B r u).cons_cons p
      · exact (evict_sub B r _).cons p
    · exact List.Sublist.refl _

theorem usedOf_nonneg {xs : List Kept} (h : ∀ x ∈ xs, 0 ≤ x.size ∧ x.size ≤ 65536) : 0 ≤ usedOf xs := used_pos h

theorem KOk.rest {B : Int} {xs : List Kept} (h : KOk B xs) (o : Own) : KOk B (restK o xs) :=
  ⟨h.lo, h.hi, fun x hx => h.size x (List.mem_filter.1 hx).1, by have := (sums_le (o := o) xs h.size).2.2; have := h.used; omega, by
    have : List.Sublist (restK o xs) xs := List.filter_sublist
    exact (this.map _).nodup h.keys⟩
theorem rest_len (o : Own) (xs : List Kept) : (restK o xs).length ≤ xs.length := List.length_filter_le _ _
theorem rest_keys {o : Own} {xs : List Kept} : o ∉ keysK (restK o xs) := by
  intro h
  obtain ⟨x, hx, e⟩ := List.mem_map.1 h
  have := (List.mem_filter.1 hx).2
  simp at this
  exact this e

theorem KOk.snoc {B : Int} {xs : List Kept} {x : Kept} (h : KOk B xs) (hs : 0 ≤ x.size ∧ x.size ≤ 65536) (hu : usedOf xs + x.size ≤ B) (hk : x.key ∉ keysK xs) : KOk B (xs ++ [x]) := by
  refine ⟨h.lo, h.hi, ?_, ?_, ?_⟩
  · intro y hy
    rcases List.mem_append.1 hy with hy | hy
    · exact h.size y hy
    · simp only [List.mem_singleton] at hy; subst hy; exact hs
  · rw [usedOf_append]; simp only [usedOf, List.map_cons, List.map_nil, List.sum_cons, List.sum_nil] at hu ⊢; omega
  · have := h.keys
    simp only [keysK, List.map_append, List.map_cons, List.map_nil] at this hk ⊢
    rw [List.nodup_append]
    refine ⟨this, by simp, ?_⟩
    intro a ha b hb
    simp only [List.mem_singleton] at hb
    subst hb
    rintro rfl; exact hk ha

theorem putA_ok {B : Int} {xs : List Kept} (h : KOk B xs) (o : Own) (s : Int) : KOk B (putA B xs o s).2.2 := by
  unfold putA
  split
  · exact h
  · split
    · exact h
    · rename_i h1 h2
      have hr := h.rest o
      have hsub := evictK_sub B (restK o xs) (usedOf (restK o xs) + s)
      have hfit := evictK_fits B (restK o xs) (usedOf (restK o xs) + s) (by omega)
      have hok : KOk B (evictK B (usedOf (restK o xs) + s) (restK o xs)).2 := by
        have hz : ∀ x ∈ (evictK B (usedOf (restK o xs) + s) (restK o xs)).2, 0 ≤ x.size ∧ x.size ≤ 65536 := fun x hx => hr.size x (hsub.subset hx)
        refine ⟨h.lo, h.hi, hz, ?_, (hsub.map _).nodup hr.keys⟩
        omega
      refine hok.snoc (by simp only; omega) (by simp only; omega) fun hx => ?_
      obtain ⟨y, hy, e⟩ := List.mem_map.1 hx
      exact rest_keys (List.mem_map.2 ⟨y, hsub.subset hy, e⟩)
theorem putA_len (B : Int) (xs : List Kept) (o : Own) (s : Int) : (putA B xs o s).2.2.length ≤ xs.length + 1 := by
  unfold putA
  split
  · simp
  · split
    · simp
    · simp only [List.length_append, List.length_cons, List.length_nil]
      have := evictK_len B (restK o xs) (usedOf (restK o xs) + s)
      have := rest_len o xs
      omega

theorem useA_ok {B : Int} {xs : List Kept} (h : KOk B xs) (o : Own) : KOk B (useA xs o).2 ∧ (useA xs o).2.length = xs.length := by
  unfold useA
  cases hg : getK xs o with
  | none => exact ⟨h, rfl⟩
  | some x =>
    obtain ⟨a, b, rfl, hx, ha, hb, hr⟩ := getK_some h.keys hg
    have hxs := h.size x (by simp)
    have hu := h.used
    refine ⟨(h.rest o).snoc hxs ?_ (by rw [hx]; exact rest_keys), by simp only; rw [hr]; simp only [List.length_append, List.length_cons, List.length_nil]; omega⟩
    rw [hr]
    simp only [usedOf_append, usedOf_cons] at hu ⊢
    omega
theorem pinA_ok {B : Int} {xs : List Kept} (h : KOk B xs) (o : Own) (on : Bool) : KOk B (pinA xs o on).2 ∧ (pinA xs o on).2.length = xs.length ∧ keysK (pinA xs o on).2 = keysK xs := by
  unfold pinA
  cases hg : getK xs o with
  | none => exact ⟨h, rfl, rfl⟩
  | some x =>
    have e1 : keysK (xs.map fun x => if x.key = o then ⟨x.key, x.size, on⟩ else x) = keysK xs := by
      unfold keysK
      rw [List.map_map]
      refine List.map_congr_left fun y _ => ?_
      simp only [Function.comp]
      split <;> rfl
    have e2 : usedOf (xs.map fun x => if x.key = o then ⟨x.key, x.size, on⟩ else x) = usedOf xs := by
      unfold usedOf
      rw [List.map_map]
      congr 1
      refine List.map_congr_left fun y _ => ?_
      simp only [Function.comp]
      split <;> rfl
    refine ⟨⟨h.lo, h.hi, fun y hy => ?_, by simp only; rw [e2]; exact h.used, by simp only; rw [e1]; exact h.keys⟩, by simp, e1⟩
    obtain ⟨z, hz, rfl⟩ := List.mem_map.1 hy
    have := h.size z hz
    split <;> exact this
theorem dropA_ok {B : Int} {xs : List Kept} (h : KOk B xs) (o : Own) : KOk B (dropA xs o).2 ∧ (dropA xs o).2.length ≤ xs.length := by
  unfold dropA
  cases hg : getK xs o with
  | none => exact ⟨h, Nat.le_refl _⟩
  | some x =>
    simp only
    split
    · exact ⟨h, Nat.le_refl _⟩
    · exact ⟨h.rest o, rest_len o xs⟩

end Go.Proofs.Ytkloaadaicklfaa
