/-
  Keys of the memory, and maps by such keys: what look-up, store and delete do to the list of a map's entries.
-/
import Derived.Test.YtkloaadaicklfaaProg
import Derived.Test.YtkloaadaicklfaaH0
namespace Go.Proofs.Ytkloaadaicklfaa
open Go.RowKit

structure Own where
  (f k n r : Int)
  deriving DecidableEq

@[reducible] def Own.val (o : Own) : Value := .agg #[.int .i64 o.f, .int .i64 o.k, .int .i64 o.n, .int .i64 o.r]

theorem und3 : Try.prog.underlying 3 = some (.int .i64) := by kernel_rfl
theorem und32 : Try.prog.underlying 32 = some (.struct (Try.prog.fieldsOf 32)) := by kernel_rfl
theorem und34 : Try.prog.underlying 34 = some (.struct (Try.prog.fieldsOf 34)) := by kernel_rfl
theorem fld32 : (Try.prog.fieldsOf 32).toList.map (fun f => (f.name, f.type, f.offset)) = [("Kind", 3, 0), ("N", 3, 1), ("Region", 3, 2)] := by kernel_rfl
theorem fld34 : (Try.prog.fieldsOf 34).toList.map (fun f => (f.name, f.type, f.offset)) = [("Font", 3, 0), ("Key", 32, 1)] := by kernel_rfl

theorem list2 {α β : Type} (g : α → β) {l : List α} {x y : β} (h : l.map g = [x, y]) : ∃ a b, l = [a, b] ∧ g a = x ∧ g b = y := by
  match l, h with
  | [a, b], h => simp at h; exact ⟨a, b, rfl, h.1, h.2⟩
theorem list3 {α β : Type} (g : α → β) {l : List α} {x y z : β} (h : l.map g = [x, y, z]) : ∃ a b c, l = [a, b, c] ∧ g a = x ∧ g b = y ∧ g c = z := by
  match l, h with
  | [a, b, c], h => simp at h; exact ⟨a, b, c, rfl, h.1, h.2.1, h.2.2⟩

theorem isAgg3 (w : World) : (isAgg 3).run Try.prog w = .ok false w := by simp [isAgg, run_underlying und3]
theorem isAgg32 (w : World) : (isAgg 32).run Try.prog w = .ok true w := by simp [isAgg, run_underlying und32]
theorem size32 (w : World) : (sizeOf 32).run Try.prog w = .ok 3 w := by kernel_rfl

theorem part3 (w : World) (cs : Array Value) (i : Nat) (v : Value) (h : cs[i]? = some v) : (part 3 cs i).run Try.prog w = .ok v w := by
  simp [part, h]
theorem part32 (w : World) (cs : Array Value) (i : Nat) : (part 32 cs i).run Try.prog w = .ok (.agg (cs.extract i (i + 3))) w := by
  simp [part]

theorem eq32 (d : Nat) (a b c a' b' c' : Int) (w : World) :
    (Op.equalIn (d + 2) 32 (.agg #[.int .i64 a, .int .i64 b, .int .i64 c]) (.agg #[.int .i64 a', .int .i64 b', .int .i64 c'])).run Try.prog w = .ok (decide (a = a' ∧ b = b' ∧ c = c')) w := by
  rw [run_equalIn_struct _ _ _ _ _ und32 (by kernel_rfl)]
  obtain ⟨f1, f2, f3, hl, h1, h2, h3⟩ := list3 _ fld32
  simp only [Prod.mk.injEq] at h1 h2 h3
  rw [hl]
  simp only [Op.eqFields, h1, h2, h3]
  simp [part3, run_equalIn_int _ _ _ _ _ _ _ und3]
  by_cases e1 : a = a' <;> by_cases e2 : b = b' <;> by_cases e3 : c = c' <;> simp [e1, e2, e3]

theorem eq34 (o p : Own) (w : World) : (Op.equal 34 o.val p.val).run Try.prog w = .ok (decide (o = p)) w := by
  show (Op.equalIn (9999 + 1) 34 _ _).run Try.prog w = _
  rw [run_equalIn_struct _ _ _ _ _ und34 (by kernel_rfl)]
  obtain ⟨f1, f2, hl, h1, h2⟩ := list2 _ fld34
  simp only [Prod.mk.injEq] at h1 h2
  rw [hl]
  simp only [Op.eqFields, h1, h2]
  have hq := eq32 9997 o.k o.n o.r p.k p.n p.r w
  obtain ⟨a, b, c, d⟩ := o
  obtain ⟨a', b', c', d'⟩ := p
  simp [part3, part32, run_equalIn_int _ _ _ _ _ _ _ und3]
  simp at hq
  by_cases e1 : a = a'
  · simp [e1]
    rw [hq]
    by_cases e2 : b = b' <;> by_cases e3 : c = c' <;> by_cases e4 : d = d' <;> simp [e2, e3, e4]
  · simp [e1]

theorem check3 (em : Bool) (n : Nat) (v : Value) (w : World) (q : Int) (h : v = .int .i64 q) : (Instr.checkKey em (n + 1) 3 v).run Try.prog w = .ok () w := by
  subst h; simp [Instr.checkKey, run_underlying und3]

theorem check32 (em : Bool) (n : Nat) (a b c : Int) (w : World) : (Instr.checkKey em (n + 2) 32 (.agg #[.int .i64 a, .int .i64 b, .int .i64 c])).run Try.prog w = .ok () w := by
  simp only [Instr.checkKey, Sem.run_bind, run_underlying und32, Result.andThen_ok]
  rw [← Array.forIn_toList]
  obtain ⟨f1, f2, f3, hl, h1, h2, h3⟩ := list3 _ fld32
  simp only [Prod.mk.injEq] at h1 h2 h3
  rw [hl]
  simp [h1, h2, h3, part3, Result.andThen]

theorem check34 (em : Bool) (n : Nat) (o : Own) (w : World) : (Instr.checkKey em (n + 3) 34 o.val).run Try.prog w = .ok () w := by
  simp only [Instr.checkKey, Sem.run_bind, run_underlying und34, Result.andThen_ok]
  rw [← Array.forIn_toList]
  obtain ⟨f1, f2, hl, h1, h2⟩ := list2 _ fld34
  simp only [Prod.mk.injEq] at h1 h2
  rw [hl]
  have := check32 em n o.k o.n o.r w
  simp [h1, h2, part3, part32, Result.andThen]

/-- The entries of a map, in their order. -/
def MapAs (w : World) (r : Nat) (l : List (Own × Value)) : Prop :=
  ∃ (es : Array MapEntry) (clock : Nat), w.heap[r]? = some (.map es clock) ∧ es.toList.map (fun e => (e.key, e.val)) = l.map (fun p => (p.1.val, p.2))

/-- Place and value of a key. -/
def lookAt (o : Own) : List (Own × Value) → Nat → Option (Nat × Value)
  | [], _ => none
  | p :: l, i => if o = p.1 then some (i, p.2) else lookAt o l (i + 1)

theorem run_findAsking (o : Own) (w : World) : ∀ (es : List MapEntry) (l : List (Own × Value)) (i : Nat), es.map (fun e => (e.key, e.val)) = l.map (fun p => (p.1.val, p.2)) →
    (Instr.findAsking 34 o.val es i).run Try.prog w = .ok (lookAt o l i) w
  | [], [], i, _ => rfl
  | [], _ :: _, _, h => by simp at h
  | _ :: _, [], _, h => by simp at h
  | e :: es, p :: l, i, h => by
    simp only [List.map_cons, List.cons.injEq, Prod.mk.injEq] at h
    obtain ⟨⟨h1, h2⟩, h3⟩ := h
    simp only [Instr.findAsking, Sem.run_bind, h1, eq34, Result.andThen_ok, lookAt]
    by_cases e1 : o = p.1
    · simp [e1, h2]
    · simp only [e1, decide_false, Bool.false_eq_true, if_false]
      exact run_findAsking o w es l (i + 1) h3

theorem run_findKey34 (o : Own) (w : World) (es : List MapEntry) (l : List (Own × Value)) (h : es.map (fun e => (e.key, e.val)) = l.map (fun p => (p.1.val, p.2))) :
    (Instr.findKey 34 o.val es).run Try.prog w = .ok (lookAt o l 0) w := by
  simp only [Instr.findKey, Sem.run_bind, run_underlying und34, Result.andThen_ok]
  cases es with
  | nil =>
    have : l = [] := by simpa using h
    subst this
    rfl
  | cons e es =>
    simp only [Instr.findNow, Instr.sameNow]
    exact run_findAsking o w _ l 0 h

theorem lookAt_some {o : Own} : ∀ {l : List (Own × Value)} {i j : Nat} {v : Value}, lookAt o l i = some (j, v) → i ≤ j ∧ l[j - i]? = some (o, v)
  | [], _, _, _, h => by simp [lookAt] at h
  | p :: l, i, j, v, h => by
    unfold lookAt at h
    split at h
    · rename_i e
      simp only [Option.some.injEq, Prod.mk.injEq] at h
      obtain ⟨rfl, rfl⟩ := h
      exact ⟨Nat.le_refl _, by simp [e]⟩
    · have ⟨h1, h2⟩ := lookAt_some h
      refine ⟨by omega, ?_⟩
      rw [show j - i = (j - (i + 1)) + 1 from by omega]
      simpa using h2
theorem lookAt_none {o : Own} : ∀ {l : List (Own × Value)} {i : Nat}, lookAt o l i = none → ∀ p ∈ l, p.1 ≠ o
  | [], _, _, p, hp => by simp at hp
  | q :: l, i, h, p, hp => by
    unfold lookAt at h
    split at h
    · simp at h
    · rename_i e
      rcases List.mem_cons.1 hp with rfl | hp
      · exact fun x => e x.symm
      · exact lookAt_none h p hp

/-- The value of a key. -/
def mget (l : List (Own × Value)) (o : Own) : Option Value := (lookAt o l 0).map (·.2)

theorem lookAt_shift (o : Own) : ∀ (l : List (Own × Value)) (i : Nat), (lookAt o l i).map (·.2) = mget l o
  | [], _ => rfl
  | p :: l, i => by
    unfold mget
    simp only [lookAt]
    split
    · rfl
    · rw [lookAt_shift o l (i + 1), lookAt_shift o l (0 + 1)]
theorem mget_nil (o : Own) : mget [] o = none := rfl
theorem mget_cons (p : Own × Value) (l : List (Own × Value)) (o : Own) : mget (p :: l) o = if o = p.1 then some p.2 else mget l o := by
  unfold mget
  simp only [lookAt]
  split
  · rfl
  · rw [lookAt_shift]; rfl

theorem run_lookup34 {t e : TypeId} {zero : Value} (ht : Try.prog.underlying t = some (.map 34 e)) (hz : ∀ w, (zeroValue e).run Try.prog w = .ok zero w)
    {w : World} {r : Nat} {l : List (Own × Value)} (h : MapAs w r l) (o : Own) (ok : Bool) :
    (Instr.lookup t (.map (some r)) o.val ok).run Try.prog w = .ok (if ok then .tuple #[(mget l o).getD zero, .bool (mget l o).isSome] else (mget l o).getD zero) w := by
  obtain ⟨es, clock, hb, hl⟩ := h
  simp only [Instr.lookup, Sem.run_bind, run_underlying ht, Result.andThen_ok, getObj, Sem.run, hb, check34]
  rw [Sem.run_pure, Result.andThen_ok, run_findKey34 o w es.toList l hl]
  unfold mget
  cases hf : lookAt o l 0 with
  | none => simp [hz]
  | some p => simp

theorem run_lookup34_nil {t e : TypeId} {zero : Value} (ht : Try.prog.underlying t = some (.map 34 e)) (hz : ∀ w, (zeroValue e).run Try.prog w = .ok zero w)
    {w : World} (o : Own) (ok : Bool) :
    (Instr.lookup t (.map none) o.val ok).run Try.prog w = .ok (if ok then .tuple #[zero, .bool false] else zero) w := by
  simp only [Instr.lookup, Sem.run_bind, run_underlying ht, Result.andThen_ok, check34, Sem.run_pure]
  rw [run_findKey34 o w [] [] rfl]
  simp [lookAt, hz]

/-- A store at a key. -/
def mput (l : List (Own × Value)) (o : Own) (v : Value) : List (Own × Value) :=
  match lookAt o l 0 with
  | some (i, _) => l.set i (o, v)
  | none => l ++ [(o, v)]
/-- A delete of a key. -/
def mdel (l : List (Own × Value)) (o : Own) : List (Own × Value) :=
  match lookAt o l 0 with
  | some (i, _) => l.eraseIdx i
  | none => l

theorem sameBits_own (o : Own) : Instr.sameBits 10000 o.val o.val = true := by
  obtain ⟨a, b, c, d⟩ := o
  simp [Instr.sameBits]

theorem run_update34 {t e : TypeId} (ht : Try.prog.underlying t = some (.map 34 e)) {w : World} {r : Nat} {l : List (Own × Value)} (h : MapAs w r l) (o : Own) (v : Value) :
    ∃ ob, (Instr.mapUpdate t (.map (some r)) o.val v).run Try.prog w = .ok () { w with heap := w.heap.setIfInBounds r ob } ∧
      MapAs { w with heap := w.heap.setIfInBounds r ob } r (mput l o v) := by
  obtain ⟨es, clock, hb, hl⟩ := h
  have hr : r < w.heap.size := lt_of_heap hb
  simp only [Instr.mapUpdate, Sem.run_bind, run_underlying ht, Result.andThen_ok, getObj, setObj, Sem.run, hb, check34, run_findKey34 o w es.toList l hl]
  unfold mput
  cases hf : lookAt o l 0 with
  | none =>
    simp only [Sem.run, hb]
    refine ⟨.map (es.push { key := o.val, val := v, born := clock }) (clock + 1), rfl, es.push { key := o.val, val := v, born := clock }, clock + 1, ?_, ?_⟩
    · show (w.heap.setIfInBounds r _)[r]? = _
      simp [hr]
    · simp [hl]
  | some p =>
    obtain ⟨i, x⟩ := p
    have ⟨_, h2⟩ := lookAt_some hf
    rw [Nat.sub_zero] at h2
    have hi : i < l.length := by
      rcases Nat.lt_or_ge i l.length with g | g
      · exact g
      · rw [List.getElem?_eq_none g] at h2; simp at h2
    have hlen : es.size = l.length := by
      have := congrArg List.length hl; simpa using this
    have hk : (es[i]?).map (·.key) = some o.val := by
      have h3 := congrArg (fun L => (L[i]?).map (·.1)) hl
      simp only [List.getElem?_map, h2, Option.map_some, Option.map_map] at h3
      simp only [Array.getElem?_toList] at h3
      rw [← h3]
      cases es[i]? <;> rfl
    simp only [hk, Option.getD_some, Instr.keyThatStays, sameBits_own, if_true, Sem.run_bind, Sem.run_pure, Result.andThen_ok, Sem.run, hb]
    refine ⟨.map (es.modify i fun e => { e with key := o.val, val := v }) clock, rfl, es.modify i fun e => { e with key := o.val, val := v }, clock, ?_, ?_⟩
    · show (w.heap.setIfInBounds r _)[r]? = _
      simp [hr]
    · apply List.ext_getElem?
      intro j
      simp only [List.getElem?_map, Array.getElem?_toList, Array.getElem?_modify, List.getElem?_set]
      have h3 := congrArg (fun L => L[j]?) hl
      simp only [List.getElem?_map, Array.getElem?_toList] at h3
      by_cases e1 : i = j
      · subst e1
        have hie : i < es.size := by omega
        simp [hi, hie]
      · simp only [e1, if_false]
        exact h3

theorem run_delete34 {t e ty : TypeId} (ht : Try.prog.underlying t = some (.map 34 e)) {w : World} {r : Nat} {l : List (Own × Value)} (h : MapAs w r l) (o : Own) (k : TypeId) :
    ∃ ob, (Builtin.delete_ #[t, k] ty #[.map (some r), o.val]).run Try.prog w = .ok (.tuple #[]) { w with heap := w.heap.setIfInBounds r ob } ∧
      MapAs { w with heap := w.heap.setIfInBounds r ob } r (mdel l o) := by
  obtain ⟨es, clock, hb, hl⟩ := h
  have hr : r < w.heap.size := lt_of_heap hb
  simp only [Builtin.delete_, List.getElem?_toArray, List.getElem?_cons_zero, List.getElem?_cons_succ, Sem.run_bind, run_underlying ht, Result.andThen_ok, getObj, setObj, Sem.run, hb, check34, run_findKey34 o w es.toList l hl]
  unfold mdel
  cases hf : lookAt o l 0 with
  | none =>
    simp only [Sem.run_bind, Sem.run_pure, Result.andThen_ok, Sem.run, hb]
    refine ⟨.map es clock, rfl, es, clock, ?_, hl⟩
    show (w.heap.setIfInBounds r _)[r]? = _
    simp [hr]
  | some p =>
    obtain ⟨i, x⟩ := p
    simp only [Sem.run_bind, Sem.run_pure, Result.andThen_ok, Sem.run, hb]
    refine ⟨.map (es.eraseIdxIfInBounds i) clock, rfl, es.eraseIdxIfInBounds i, clock, ?_, ?_⟩
    · show (w.heap.setIfInBounds r _)[r]? = _
      simp [hr]
    · have hm : ∀ {α β : Type} (g : α → β) (l : List α) (i : Nat), (l.eraseIdx i).map g = (l.map g).eraseIdx i := by
        intro α β g l
        induction l with
        | nil => intro i; rfl
        | cons a l ih => intro i; cases i <;> simp [ih]
      have : (es.eraseIdxIfInBounds i).toList = es.toList.eraseIdx i := by
        unfold Array.eraseIdxIfInBounds
        split
        · simp
        · rename_i g
          rw [List.eraseIdx_of_length_le (by simpa using g)]
      rw [this, hm, hl, ← hm]

theorem run_len34 {t e ty : TypeId} (ht : Try.prog.underlying t = some (.map 34 e)) {w : World} {r : Nat} {l : List (Own × Value)} (h : MapAs w r l) :
    (Builtin.len_ #[t] ty #[.map (some r)]).run Try.prog w = .ok (.int .i64 l.length) w := by
  obtain ⟨es, clock, hb, hl⟩ := h
  have hlen : es.size = l.length := by
    have := congrArg List.length hl; simpa using this
  simp [Builtin.len_, run_underlying ht, getObj, Sem.run, hb, goInt, hlen]

end Go.Proofs.Ytkloaadaicklfaa
