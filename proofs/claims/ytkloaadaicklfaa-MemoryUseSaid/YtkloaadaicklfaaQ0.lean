/-
  What is given up are the first keys that are not pinned, as many as are needed: in plain lists.
-/
import Derived.Test.YtkloaadaicklfaaB1
import Derived.Test.YtkloaadaicklfaaE0
namespace Go.Proofs.Ytkloaadaicklfaa
open Go.RowKit

theorem evict_none (B : Int) : ∀ (r : List Kept) (u : Int), (evictK B u r).1 = [] → (evictK B u r).2 = r
  | [], _, _ => rfl
  | p :: r, u, h => by
    simp only [evictK] at h ⊢
    split at h
    · rename_i h1
      rw [if_pos h1]
      split at h
      · rename_i h2
        rw [if_pos h2]
        show p :: _ = _
        rw [evict_none B r u h]
      · simp at h
    · rename_i h1
      rw [if_neg h1]
theorem evict_last (B : Int) : ∀ (r : List Kept) (u : Int) (k : Own), (evictK B u r).1.getLast? = some k → ∃ x ∈ r, x.key = k ∧ B < (u - usedOf r) + usedOf (evictK B u r).2 + x.size
  | [], _, _, h => by simp [evictK] at h
  | p :: r, u, k, h => by
    simp only [evictK] at h ⊢
    split at h
    · rename_i h1
      rw [if_pos h1]
      split at h
      · rename_i h2
        rw [if_pos h2]
        obtain ⟨x, hx, hk, hb⟩ := evict_last B r u k h
        refine ⟨x, List.mem_cons_of_mem _ hx, hk, ?_⟩
        simp only [usedOf_cons]
        omega
      · rename_i h2
        rw [if_neg h2]
        simp only at h ⊢
        cases hg : (evictK B (u - p.size) r).1 with
        | nil =>
          rw [hg] at h
          simp only [List.getLast?_singleton, Option.some.injEq] at h
          refine ⟨p, by simp, h, ?_⟩
          rw [evict_none B r _ hg, usedOf_cons]
          omega
        | cons q g =>
          rw [hg, List.getLast?_cons_cons] at h
          obtain ⟨x, hx, hk, hb⟩ := evict_last B r (u - p.size) k (by rw [hg]; exact h)
          refine ⟨x, List.mem_cons_of_mem _ hx, hk, ?_⟩
          rw [usedOf_cons]
          omega
    · simp at h

/-- How far the loop over the list before has come. -/
structure OL (B : Int) (xs : List Kept) (o : Own) (s : Int) (gone : List Own) (kept a c : List Kept) (g1 : List Own) (kp : List Kept) (u : Int) : Prop where
  all : xs = a ++ c
  uis : u = usedOf kp + usedOf (restK o c) + s
  gone : gone = g1 ++ (evictK B u (restK o c)).1
  kept : kept = kp ++ (evictK B u (restK o c)).2
  few : kp.length ≤ a.length
  lo : 0 ≤ usedOf kp
  le : usedOf kp + usedOf (restK o c) ≤ usedOf xs

theorem restK_cons_eq {o : Own} {x : Kept} {c : List Kept} (h : x.key = o) : restK o (x :: c) = restK o c := by simp [restK, h]
theorem restK_cons_ne {o : Own} {x : Kept} {c : List Kept} (h : x.key ≠ o) : restK o (x :: c) = x :: restK o c := by simp [restK, h]
theorem used_rest_le {o : Own} {xs : List Kept} (h : ∀ x ∈ xs, 0 ≤ x.size ∧ x.size ≤ 65536) : usedOf (restK o xs) ≤ usedOf xs := by
  induction xs with
  | nil => simp [restK]
  | cons x xs ih =>
    have := ih fun y hy => h y (List.mem_cons_of_mem _ hy)
    have hx := h x (by simp)
    by_cases e : x.key = o
    · rw [restK_cons_eq e, usedOf_cons]; omega
    · rw [restK_cons_ne e, usedOf_cons, usedOf_cons]; omega

theorem OL.start {B : Int} {xs : List Kept} (hk : KOk B xs) (o : Own) (s : Int) : OL B xs o s (evictK B (usedOf (restK o xs) + s) (restK o xs)).1 (evictK B (usedOf (restK o xs) + s) (restK o xs)).2 [] xs [] [] (usedOf (restK o xs) + s) :=
  ⟨rfl, by simp [usedOf], rfl, rfl, by simp, by simp [usedOf], by have := used_rest_le (o := o) hk.size; simpa [usedOf] using this⟩

theorem OL.skip {B : Int} {xs : List Kept} {o : Own} {s : Int} {gone : List Own} {kept a c : List Kept} {g1 : List Own} {kp : List Kept} {u : Int} {x : Kept} (h : OL B xs o s gone kept a (x :: c) g1 kp u) (hx : x.key = o) : OL B xs o s gone kept (a ++ [x]) c g1 kp u := by
  obtain ⟨h1, h2, h3, h4, h5, h6, h7⟩ := h
  rw [restK_cons_eq hx] at h2 h3 h4 h7
  exact ⟨by rw [h1]; simp, h2, h3, h4, by simp; omega, h6, h7⟩
/-- What the next place is. -/
theorem OL.step {B : Int} {xs : List Kept} (hk : KOk B xs) {o : Own} {s : Int} {gone : List Own} {kept a c : List Kept} {g1 : List Own} {kp : List Kept} {u : Int} {x : Kept} (h : OL B xs o s gone kept a (x :: c) g1 kp u) (hx : x.key ≠ o) :
    (∃ g2, gone = g1 ++ x.key :: g2 ∧ x.pinned = false ∧ OL B xs o s gone kept (a ++ [x]) c (g1 ++ [x.key]) kp (u - x.size)) ∨
    ((gone = g1 ∨ ∃ y g2, gone = g1 ++ y :: g2 ∧ y ≠ x.key ∧ x.pinned = true) ∧ OL B xs o s gone kept (a ++ [x]) c g1 (kp ++ [x]) u) := by
  obtain ⟨h1, h2, h3, h4, h5, h6, h7⟩ := h
  have hs : 0 ≤ x.size := (hk.size x (by rw [h1]; simp)).1
  have hn : x.key ∉ keysK c := by
    have := hk.keys
    rw [h1] at this
    simp only [keysK, List.map_append, List.map_cons, List.nodup_append, List.nodup_cons] at this
    exact this.2.1.1
  have hr : x.key ∉ keysK (restK o c) := fun e => by
    obtain ⟨y, hy, he⟩ := List.mem_map.1 e
    exact hn (List.mem_map.2 ⟨y, restK_sub _ _ y hy, he⟩)
  rw [restK_cons_ne hx] at h2 h3 h4 h7
  rw [usedOf_cons] at h2 h7
  simp only [evictK] at h3 h4
  by_cases g : B < u
  · rw [if_pos g] at h3 h4
    cases hp : x.pinned with
    | true =>
      rw [hp] at h3 h4
      simp only [if_true] at h3 h4
      right
      refine ⟨?_, ⟨by rw [h1]; simp, by rw [usedOf_append, h2]; simp [usedOf]; omega, h3, by rw [h4]; simp, by simp; omega, by rw [usedOf_append]; simp [usedOf]; simp [usedOf] at h6; omega, by rw [usedOf_append]; simp [usedOf] at h7 ⊢; omega⟩⟩
      cases hg : (evictK B u (restK o c)).1 with
      | nil => left; rw [h3, hg]; simp
      | cons y g2 =>
        right
        refine ⟨y, g2, by rw [h3, hg], fun e => hr ?_, rfl⟩
        have := (evictK_keys B (restK o c) u).subset (show y ∈ (evictK B u (restK o c)).1 by rw [hg]; simp)
        rwa [e] at this
    | false =>
      rw [hp] at h3 h4
      simp only [Bool.false_eq_true, if_false] at h3 h4
      left
      exact ⟨_, h3, rfl, ⟨by rw [h1]; simp, by omega, by rw [h3]; simp, h4, by simp; omega, h6, by omega⟩⟩
  · rw [if_neg g] at h3 h4
    right
    have he : evictK B u (restK o c) = ([], restK o c) := by
      cases restK o c with
      | nil => rfl
      | cons p r => simp only [evictK]; rw [if_neg g]
    refine ⟨.inl (by rw [h3]; simp), ⟨by rw [h1]; simp, by rw [usedOf_append, h2]; simp [usedOf]; omega, by rw [h3, he], by rw [h4, he]; simp, by simp; omega, by rw [usedOf_append]; simp [usedOf]; simp [usedOf] at h6; omega, by rw [usedOf_append]; simp [usedOf] at h7 ⊢; omega⟩⟩
theorem OL.done {B : Int} {xs : List Kept} {o : Own} {s : Int} {gone : List Own} {kept a : List Kept} {g1 : List Own} {kp : List Kept} {u : Int} (h : OL B xs o s gone kept a [] g1 kp u) : gone = g1 ∧ kept = kp := by
  have h3 := h.gone
  have h4 := h.kept
  simp [restK, evictK] at h3 h4
  exact ⟨h3, h4⟩

/-- The pins of the keys. -/
def pnK (xs : List Kept) (o : Own) : Option Bool := (getK xs o).map (·.pinned)
theorem getK_snoc {xs a b : List Kept} {x : Kept} (hn : (keysK xs).Nodup) (h : xs = a ++ x :: b) (p : Own) : getK (a ++ [x]) p = if p = x.key then some x else getK a p := by
  unfold getK
  rw [List.find?_append]
  by_cases e : p = x.key
  · subst e
    have : a.find? (fun y => decide (y.key = x.key)) = none := by
      rw [List.find?_eq_none]
      intro y hy
      simp only [decide_eq_true_eq]
      intro e
      rw [h] at hn
      simp only [keysK, List.map_append, List.map_cons, List.nodup_append] at hn
      exact hn.2.2 y.key (List.mem_map.2 ⟨y, hy, rfl⟩) x.key (by simp) e
    rw [this]
    simp
  · rw [if_neg e]
    have : ([x] : List Kept).find? (fun y => decide (y.key = p)) = none := by
      rw [List.find?_eq_none]
      intro y hy
      simp only [List.mem_singleton] at hy
      subst hy
      simpa using fun e' => e e'.symm
    rw [this]
    cases a.find? (fun y => decide (y.key = p)) <;> rfl
theorem szK_snoc {xs a b : List Kept} {x : Kept} (hn : (keysK xs).Nodup) (h : xs = a ++ x :: b) (p : Own) : (if p = x.key then some x.size else szK a p) = szK (a ++ [x]) p := by
  unfold szK
  rw [getK_snoc hn h]
  split <;> rfl
theorem pnK_snoc {xs a b : List Kept} {x : Kept} (hn : (keysK xs).Nodup) (h : xs = a ++ x :: b) (p : Own) : (if p = x.key then some x.pinned else pnK a p) = pnK (a ++ [x]) p := by
  unfold pnK
  rw [getK_snoc hn h]
  split <;> rfl
/-- The map holds the pins. -/
structure PinMap (l : List (Own × Value)) (f : Own → Option Bool) : Prop where
  keys : (l.map (·.1)).Nodup
  get : ∀ o, mget l o = (f o).map Value.bool
theorem PinMap.put {l : List (Own × Value)} {f : Own → Option Bool} (h : PinMap l f) (o : Own) (s : Bool) : PinMap (mput l o (.bool s)) (fun p => if p = o then some s else f p) :=
  ⟨mput_nodup h.keys o _, fun p => by rw [mget_mput, h.get]; split <;> rfl⟩
theorem PinMap.congr {l : List (Own × Value)} {f g : Own → Option Bool} (h : PinMap l f) (e : ∀ o, f o = g o) : PinMap l g := ⟨h.keys, fun o => by rw [h.get, e]⟩
theorem pnK_at {xs a b : List Kept} {x : Kept} (hn : (keysK xs).Nodup) (h : xs = a ++ x :: b) : pnK xs x.key = some x.pinned := by
  unfold pnK
  rw [getK_of_mem hn (by rw [h]; simp)]; rfl

theorem zero4 (w : World) : (zeroValue 4).run Try.prog w = .ok (.bool false) w := by kernel_rfl
theorem lookS {w : World} {r : Nat} {l : List (Own × Value)} {f : Own → Option Int} (h : MapAs w r l) (hs : SizeMap l f) (o : Own) {z : Int} (hz : f o = some z) :
    (Instr.lookup 30 (.map (some r)) (.agg #[.int .i64 o.f, .int .i64 o.k, .int .i64 o.n, .int .i64 o.r]) false).run Try.prog w = .ok (.int .i64 z) w := by
  have := run_lookup34 Try.underlying30 zero3 h o false
  rw [hs.get, hz] at this
  exact this
theorem lookP {w : World} {r : Nat} {l : List (Own × Value)} {f : Own → Option Bool} (h : MapAs w r l) (hs : PinMap l f) (o : Own) {z : Bool} (hz : f o = some z) :
    (Instr.lookup 50 (.map (some r)) (.agg #[.int .i64 o.f, .int .i64 o.k, .int .i64 o.n, .int .i64 o.r]) false).run Try.prog w = .ok (.bool z) w := by
  have := run_lookup34 Try.underlying50 zero4 h o false
  rw [hs.get, hz] at this
  exact this
theorem updP {w : World} {r : Nat} {l : List (Own × Value)} (h : MapAs w r l) (o : Own) (v : Value) :
    ∃ w', (Instr.mapUpdate 50 (.map (some r)) (.agg #[.int .i64 o.f, .int .i64 o.k, .int .i64 o.n, .int .i64 o.r]) v).run Try.prog w = .ok () w' ∧ MapAs w' r (mput l o v) ∧ Ext (fun k => k = r) w w' := by
  obtain ⟨ob, h1, h2⟩ := run_update34 Try.underlying50 h o v
  exact ⟨_, h1, h2, setObj_ext _ _ _⟩

theorem put_ok {B : Int} {xs : List Kept} {o : Own} {s : Int} (h : (putA B xs o s).2.1 = 0) : putA B xs o s = ((evictK B (usedOf (restK o xs) + s) (restK o xs)).1, 0, (evictK B (usedOf (restK o xs) + s) (restK o xs)).2 ++ [⟨o, s, pinFlag xs o⟩]) := by
  unfold putA at h ⊢
  split at h
  · simp at h
  split at h
  · simp at h
  · rename_i h1 h2
    rw [if_neg h1, if_neg h2]
theorem put_two {B : Int} {xs : List Kept} (hk : KOk B xs) (o : Own) {s : Int} (h0 : 0 ≤ s) (h1 : s ≤ 63) : putA B xs o s = ([], 50, xs) ∨ (putA B xs o s).2.1 = 0 := by
  rcases put_cases hk o s with ⟨h, _⟩ | ⟨_, h⟩ | ⟨_, h⟩
  · omega
  · exact .inl h
  · exact .inr h
theorem keysAt_gen {w : World} {base : Nat} {v : Value} {ks : List Own} (h : KeysAt w base v ks) : ∃ av cap, v = .slice av ks.length cap ∧ ks.length ≤ cap ∧ cap ≤ 9223372036854775807 ∧ (0 < ks.length → ∃ g, av = some ⟨g, 0, none⟩) := by
  rcases keysAt_shape h with ⟨rfl, rfl⟩ | ⟨g, cap, hv, h1, h2⟩
  · exact ⟨none, 0, rfl, by simp, by omega, fun z => by simp at z⟩
  · exact ⟨_, cap, hv, h1, by unfold maxLen at h2; omega, fun _ => ⟨g, rfl⟩⟩
/-- The keys that are wanted so far, and the world around them. -/
structure OW (w8 : World) (wt : Value) (kp : List Kept) (w : World) : Prop where
  want : KeysAt w w8.heap.size wt (keysK kp)
  e : Ext Nope w8 w
theorem OW.quiet {w8 w w' : World} {wt : Value} {kp : List Kept} (h : OW w8 wt kp w) (e : Ext Nope w w') : OW w8 wt kp w' := ⟨h.want.ext2 e (fun _ _ z => z), ext0 h.e e⟩
theorem OW.snoc {w8 w w1 : World} {wt v' : Value} {kp : List Kept} {x : Kept} {ob : Obj} {n : Nat} (h : OW w8 wt kp w) (hown : w1.ownsRow w8.heap.size 34 4 v' n (keyCells (keysK kp) ++ keyCells [x.key])) (hn : n = (keysK kp).length + 1) (hg : (w.alloc ob).grownBy w1 wt.ownBlock) : OW w8 v' (kp ++ [x]) w1 := by
  refine ⟨?_, ?_⟩
  · have := KeysAt.snoc' hown hn
    simpa [keysK] using this
  · exact (h.e.alloc ob).grown hg fun k hk hlt => absurd (h.want.lt k hk).1 (by omega)
theorem OW.far {w8 w w1 : World} {wt : Value} {kp : List Kept} {Y : Nat} {o : Obj} {ob : Obj} (h : OW w8 wt kp w) (hY : w.heap[Y]? = some o) (hne : wt.ownBlock ≠ some Y) (hg : (w.alloc ob).grownBy w1 wt.ownBlock) : w1.heap[Y]? = some o :=
  ((hg.block Y (by have := lt_of_heap hY; simp; omega) (fun e => hne e.symm)).trans (heap_alloc_old _ _ _ (lt_of_heap hY))).trans hY
theorem gone_last {B : Int} {xs : List Kept} (hk : KOk B xs) {o : Own} {s : Int} {gi : List Own} {k : Own} (h : (evictK B (usedOf (restK o xs) + s) (restK o xs)).1 = gi ++ [k]) : ∃ z, szK xs k = some z ∧ 0 ≤ z ∧ z ≤ 65536 ∧ B < s + usedOf (evictK B (usedOf (restK o xs) + s) (restK o xs)).2 + z := by
  obtain ⟨x, hx, hxk, hb⟩ := evict_last B (restK o xs) (usedOf (restK o xs) + s) k (by rw [h]; simp)
  have hx' := restK_sub o xs x hx
  exact ⟨x.size, (szK_iff hk.keys).2 ⟨x, hx', hxk, rfl⟩, (hk.size x hx').1, (hk.size x hx').2, by omega⟩
theorem kept_fits {B : Int} {xs : List Kept} (hk : KOk B xs) {o : Own} {s : Int} (h : (putA B xs o s).2.1 = 0) : s + usedOf (evictK B (usedOf (restK o xs) + s) (restK o xs)).2 ≤ B := by
  have h1 := (putA_ok hk o s).used
  rw [put_ok h, usedOf_append] at h1
  simp [usedOf] at h1
  simp [usedOf]
  omega

theorem wpList_take {P : Program} {ops : Array Oper} {Q : Exit → Act → World → Prop} {a : Act} {w : World} {rest : List Oper} {o : Oper} (hw : Region.wanted o (yielded ops a.tmps) = true)
    (h : ∀ K : Act → World → Prop, (∀ a w, wpList P ops Q rest a w → K a w) → o.wp P a w K Q) : wpList P ops Q (o :: rest) a w :=
  wpList_step fun K hK => by rw [if_pos hw]; exact h K hK

end Go.Proofs.Ytkloaadaicklfaa
