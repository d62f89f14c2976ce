/-
  The law's own map of sizes, in plain lists.
-/
import Derived.Test.YtkloaadaicklfaaI0
namespace Go.Proofs.Ytkloaadaicklfaa
open Go.RowKit

/-- The size of a key. -/
def szK (xs : List Kept) (o : Own) : Option Int := (getK xs o).map (·.size)

theorem szK_iff {xs : List Kept} (hn : (keysK xs).Nodup) {o : Own} {s : Int} : szK xs o = some s ↔ ∃ x ∈ xs, x.key = o ∧ x.size = s := by
  unfold szK
  constructor
  · intro h
    cases hg : getK xs o with
    | none => rw [hg] at h; cases h
    | some x =>
      rw [hg] at h
      simp only [Option.map_some, Option.some.injEq] at h
      exact ⟨x, (getK_mem hg).1, (getK_mem hg).2, h⟩
  · rintro ⟨x, hx, rfl, rfl⟩
    rw [getK_of_mem hn hx]; rfl
theorem szK_some {xs : List Kept} {o : Own} : (szK xs o).isSome ↔ o ∈ keysK xs := by
  unfold szK
  cases hg : getK xs o with
  | none =>
    simp only [Option.map_none, Option.isSome_none, Bool.false_eq_true, false_iff]
    intro h
    obtain ⟨y, hy, e⟩ := List.mem_map.1 h
    exact (getK_none hg).1 y hy e
  | some x =>
    simp only [Option.map_some, Option.isSome_some, true_iff]
    exact List.mem_map.2 ⟨x, (getK_mem hg).1, (getK_mem hg).2⟩
theorem szK_ext {xs ys : List Kept} (hx : (keysK xs).Nodup) (hy : (keysK ys).Nodup) (h : ∀ (o : Own) (s : Int), (∃ x ∈ xs, x.key = o ∧ x.size = s) ↔ ∃ y ∈ ys, y.key = o ∧ y.size = s) (o : Own) : szK xs o = szK ys o := by
  refine Option.ext fun s => ?_
  rw [szK_iff hx, szK_iff hy]
  exact h o s

theorem szK_use {B : Int} {xs : List Kept} (h : KOk B xs) (x o : Own) : szK (useA xs x).2 o = szK xs o := by
  refine szK_ext (useA_ok h x).1.keys h.keys (fun p s => ?_) o
  unfold useA
  split
  · rename_i y hy
    constructor
    · rintro ⟨z, hz, e⟩
      rcases List.mem_append.1 hz with hz | hz
      · exact ⟨z, restK_sub _ _ z hz, e⟩
      · simp only [List.mem_singleton] at hz
        subst hz
        exact ⟨z, (getK_mem hy).1, e⟩
    · rintro ⟨z, hz, e⟩
      by_cases hzx : z.key = x
      · exact ⟨y, by simp, by rw [← mem_uniq h.keys hz (getK_mem hy).1 (hzx.trans (getK_mem hy).2.symm)]; exact e⟩
      · exact ⟨z, List.mem_append_left _ (mem_rest hz hzx), e⟩
  · exact Iff.rfl
theorem szK_pin {B : Int} {xs : List Kept} (h : KOk B xs) (x : Own) (on : Bool) (o : Own) : szK (pinA xs x on).2 o = szK xs o := by
  refine szK_ext (pinA_ok h x on).1.keys h.keys (fun p s => ?_) o
  unfold pinA
  split
  · constructor
    · rintro ⟨z, hz, e1, e2⟩
      obtain ⟨y, hy, rfl⟩ := List.mem_map.1 hz
      by_cases hyx : y.key = x
      · rw [if_pos hyx] at e1 e2
        exact ⟨y, hy, e1, e2⟩
      · rw [if_neg hyx] at e1 e2
        exact ⟨y, hy, e1, e2⟩
    · rintro ⟨z, hz, e1, e2⟩
      refine ⟨_, List.mem_map.2 ⟨z, hz, rfl⟩, ?_⟩
      by_cases hyx : z.key = x
      · rw [if_pos hyx]; exact ⟨e1, e2⟩
      · rw [if_neg hyx]; exact ⟨e1, e2⟩
  · exact Iff.rfl
theorem szK_rest {B : Int} {xs : List Kept} (h : KOk B xs) (x o : Own) : szK (restK x xs) o = if o = x then none else szK xs o := by
  by_cases hox : o = x
  · rw [if_pos hox]
    cases hs : szK (restK x xs) o with
    | none => rfl
    | some s => exact absurd (szK_some.1 (by rw [hs]; rfl : (szK (restK x xs) o).isSome)) (by rw [hox]; exact rest_keys)
  · rw [if_neg hox]
    refine Option.ext fun s => ?_
    rw [szK_iff (h.rest x).keys, szK_iff h.keys]
    constructor
    · rintro ⟨z, hz, e⟩
      exact ⟨z, restK_sub _ _ z hz, e⟩
    · rintro ⟨z, hz, e1, e2⟩
      exact ⟨z, mem_rest hz (fun e => hox (e1.symm.trans e)), e1, e2⟩

theorem evictK_mem (B : Int) : ∀ (r : List Kept) (u : Int), (keysK r).Nodup → ∀ q, q ∈ (evictK B u r).2 ↔ q ∈ r ∧ q.key ∉ (evictK B u r).1
  | [], _, _, q => by simp [evictK]
  | p :: r, u, hn, q => by
    have hn' := hn
    simp only [keysK, List.map_cons, List.nodup_cons] at hn
    simp only [evictK]
    split
    · split
      · rw [List.mem_cons, List.mem_cons, evictK_mem B r u hn.2 q]
        constructor
        · rintro (rfl | ⟨h1, h2⟩)
          · refine ⟨.inl rfl, fun hg => ?_⟩
            obtain ⟨y, hy, e, _⟩ := evictK_gone _ _ _ _ hg
            exact hn.1 (List.mem_map.2 ⟨y, hy, e⟩)
          · exact ⟨.inr h1, h2⟩
        · rintro ⟨h1 | h1, h2⟩
          · exact .inl h1
          · exact .inr ⟨h1, h2⟩
      · simp only
        rw [evictK_mem B r _ hn.2 q, List.mem_cons, List.mem_cons]
        constructor
        · rintro ⟨h1, h2⟩
          refine ⟨.inr h1, ?_⟩
          rintro (e | e)
          · exact hn.1 (List.mem_map.2 ⟨q, h1, e⟩)
          · exact h2 e
        · rintro ⟨h1 | h1, h2⟩
          · exact absurd (.inl (by rw [h1])) h2
          · exact ⟨h1, fun e => h2 (.inr e)⟩
    · simp
theorem evictK_keys (B : Int) : ∀ (r : List Kept) (u : Int), List.Sublist (evictK B u r).1 (keysK r)
  | [], _ => by simp [evictK]
  | p :: r, u => by
    simp only [evictK, keysK, List.map_cons]
    split
    · split
      · exact (evictK_keys B r u).cons _
      · exact (evictK_keys B r _).cons_cons _
    · exact List.nil_sublist _

/-- What Put gives up, and what is there then. -/
theorem put_sizes {B : Int} {xs : List Kept} (h : KOk B xs) (o : Own) (s : Int) : ((putA B xs o s).1.Nodup ∧ ∀ k ∈ (putA B xs o s).1, k ∈ keysK xs ∧ k ≠ o) ∧
    ((putA B xs o s).2.1 = 0 → ∀ p, szK (putA B xs o s).2.2 p = if p ∈ (putA B xs o s).1 then none else if p = o then some s else szK xs p) ∧
    ((putA B xs o s).2.1 ≠ 0 → (putA B xs o s).1 = [] ∧ (putA B xs o s).2.2 = xs) := by
  have hok := putA_ok h o s
  revert hok
  unfold putA
  split
  · exact fun _ => ⟨⟨by simp, by simp⟩, fun e => by simp at e, fun _ => ⟨rfl, rfl⟩⟩
  split
  · exact fun _ => ⟨⟨by simp, by simp⟩, fun e => by simp at e, fun _ => ⟨rfl, rfl⟩⟩
  intro hok
  have hr := h.rest o
  have hsub := evictK_keys B (restK o xs) (usedOf (restK o xs) + s)
  have hgo : ∀ k ∈ (evictK B (usedOf (restK o xs) + s) (restK o xs)).1, k ∈ keysK xs ∧ k ≠ o := by
    intro k hk
    have hk' := hsub.subset hk
    obtain ⟨y, hy, e⟩ := List.mem_map.1 hk'
    exact ⟨List.mem_map.2 ⟨y, restK_sub _ _ y hy, e⟩, fun e' => rest_keys (e' ▸ hk')⟩
  refine ⟨⟨hsub.nodup hr.keys, hgo⟩, fun _ p => ?_, fun e => by simp at e⟩
  refine Option.ext fun t => ?_
  rw [szK_iff hok.keys]
  constructor
  · rintro ⟨z, hz, rfl, rfl⟩
    rcases List.mem_append.1 hz with hz | hz
    · obtain ⟨z1, z2⟩ := (evictK_mem B _ _ hr.keys z).1 hz
      rw [if_neg z2]
      have hzo : z.key ≠ o := fun e => rest_keys (List.mem_map.2 ⟨z, z1, e⟩)
      rw [if_neg hzo]
      exact (szK_iff h.keys).2 ⟨z, restK_sub _ _ z z1, rfl, rfl⟩
    · simp only [List.mem_singleton] at hz
      subst hz
      rw [if_neg (fun hg => (hgo _ hg).2 rfl)]
      simp
  · intro hp
    split at hp
    · cases hp
    rename_i hpg
    split at hp
    · rename_i hpo
      cases hp
      exact ⟨_, List.mem_append_right _ (List.mem_singleton.2 rfl), hpo.symm, rfl⟩
    · rename_i hpo
      obtain ⟨z, hz, rfl, rfl⟩ := (szK_iff h.keys).1 hp
      exact ⟨z, List.mem_append_left _ ((evictK_mem B _ _ hr.keys z).2 ⟨mem_rest hz hpo, hpg⟩), rfl, rfl⟩

/-- The map holds the sizes. -/
structure SizeMap (l : List (Own × Value)) (f : Own → Option Int) : Prop where
  keys : (l.map (·.1)).Nodup
  get : ∀ o, mget l o = (f o).map (Value.int .i64)

theorem SizeMap.put {l : List (Own × Value)} {f : Own → Option Int} (h : SizeMap l f) (o : Own) (s : Int) : SizeMap (mput l o (.int .i64 s)) (fun p => if p = o then some s else f p) :=
  ⟨mput_nodup h.keys o _, fun p => by rw [mget_mput, h.get]; split <;> rfl⟩
theorem SizeMap.del {l : List (Own × Value)} {f : Own → Option Int} (h : SizeMap l f) (o : Own) : SizeMap (mdel l o) (fun p => if p = o then none else f p) :=
  ⟨(mdel_spec h.keys o).1, fun p => by rw [(mdel_spec h.keys o).2, h.get]; split <;> rfl⟩
theorem SizeMap.congr {l : List (Own × Value)} {f g : Own → Option Int} (h : SizeMap l f) (e : ∀ o, f o = g o) : SizeMap l g := ⟨h.keys, fun o => by rw [h.get, e]⟩

theorem mget_isSome {o : Own} : ∀ {l : List (Own × Value)}, (mget l o).isSome ↔ o ∈ l.map (·.1)
  | [] => by simp [mget_nil]
  | p :: l => by
    rw [mget_cons]
    by_cases h : o = p.1
    · simp [h]
    · have := mget_isSome (o := o) (l := l)
      rw [if_neg h, this, List.map_cons, List.mem_cons]
      exact ⟨.inr, fun e => e.resolve_left h⟩
theorem SizeMap.length {l : List (Own × Value)} {xs : List Kept} (h : SizeMap l (szK xs)) (hn : (keysK xs).Nodup) : l.length = xs.length := by
  have hp : List.Perm (l.map (·.1)) (keysK xs) := by
    rw [List.perm_ext_iff_of_nodup h.keys hn]
    intro o
    rw [← mget_isSome, h.get, ← szK_some]
    simp
  have := hp.length_eq
  simpa [keysK] using this

end Go.Proofs.Ytkloaadaicklfaa
