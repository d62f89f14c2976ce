/-
  The contracts of both memories, told of the list of what is kept and of a set of blocks.
-/
import Derived.Test.YtkloaadaicklfaaC0
import Derived.Test.YtkloaadaicklfaaW9
import Derived.Test.YtkloaadaicklfaaR7
import Derived.Test.YtkloaadaicklfaaR8
namespace Go.Proofs.Ytkloaadaicklfaa
open Go.RowKit

/-- What a set of blocks becomes: also what is new. -/
def Grow (F : Nat → Prop) (w w' : World) (b : Nat) : Prop := F b ∨ (w.heap.size ≤ b ∧ b < w'.heap.size)

def MemIs (w : World) (bm : Nat) (B : Int) (xs : List Kept) (F : Nat → Prop) : Prop :=
  ∃ bh bk es, MRep w bm bh bk B es ∧ kepts es = xs ∧ ∀ b, Foot bm bh bk es b → F b
def RefIs (w : World) (br : Nat) (B : Int) (xs : List Kept) (F : Nat → Prop) : Prop :=
  ∃ v, RRep w br B v xs ∧ ∀ b, RFoot br v b → F b

theorem MemIs.ext {w w' : World} {bm : Nat} {B : Int} {xs : List Kept} {F S : Nat → Prop} (h : MemIs w bm B xs F) (he : Ext S w w') (hs : ∀ b, F b → ¬ S b) : MemIs w' bm B xs F := by
  obtain ⟨bh, bk, es, h1, h2, h3⟩ := h
  exact ⟨bh, bk, es, h1.ext he fun b hb => hs b (h3 b hb), h2, h3⟩
theorem RefIs.ext {w w' : World} {br : Nat} {B : Int} {xs : List Kept} {F S : Nat → Prop} (h : RefIs w br B xs F) (he : Ext S w w') (hs : ∀ b, F b → ¬ S b) : RefIs w' br B xs F := by
  obtain ⟨v, h1, h3⟩ := h
  exact ⟨v, h1.ext he (hs _ (h3 _ (.inl rfl))) fun k hk => hs _ (h3 _ (.inr hk)), h3⟩
theorem MemIs.mono {w : World} {bm : Nat} {B : Int} {xs : List Kept} {F G : Nat → Prop} (h : MemIs w bm B xs F) (hg : ∀ b, F b → G b) : MemIs w bm B xs G := by
  obtain ⟨bh, bk, es, h1, h2, h3⟩ := h
  exact ⟨bh, bk, es, h1, h2, fun b hb => hg b (h3 b hb)⟩
theorem RefIs.mono {w : World} {bm : Nat} {B : Int} {xs : List Kept} {F G : Nat → Prop} (h : RefIs w bm B xs F) (hg : ∀ b, F b → G b) : RefIs w bm B xs G := by
  obtain ⟨v, h1, h3⟩ := h
  exact ⟨v, h1, fun b hb => hg b (h3 b hb)⟩

theorem bounds_of {B : Int} {es : List (Nat × Kept)} (h : KOk B (kepts es)) : Bounds B es :=
  ⟨h.lo, h.hi, fun p hp => h.size p.2 (List.mem_map_of_mem hp), h.used⟩

/-- An element of the list, in the ring. -/
theorem split_es {es : List (Nat × Kept)} {a b : List Kept} {x : Kept} (h : kepts es = a ++ x :: b) : ∃ l p r, es = l ++ p :: r ∧ kepts l = a ∧ p.2 = x ∧ kepts r = b := by
  obtain ⟨l, t, rfl, hl, ht⟩ := List.map_eq_append_iff.1 h
  obtain ⟨p, r, rfl, hp, hr⟩ := List.map_eq_cons_iff.1 ht
  exact ⟨l, p, r, rfl, hl, hp, hr⟩
theorem kepts_append (a b : List (Nat × Kept)) : kepts (a ++ b) = kepts a ++ kepts b := List.map_append
theorem keysOf_kepts (es : List (Nat × Kept)) : keysOf es = keysK (kepts es) := by simp [keysOf, keysK, kepts]

theorem mput_calls {w : World} {bm : Nat} {B : Int} {xs : List Kept} {F : Nat → Prop} (h : MemIs w bm B xs F) (hk : KOk B xs) (hl : xs.length ≤ 1000) (o : Own) (s : Int) :
    Calls Try.prog 17 #[ptr bm, o.val, .int .i64 s] w fun e w' => ∃ v, e = .returned (.tuple #[v, .int .i64 (putA B xs o s).2.1]) ∧ KeysAt w' w.heap.size v (putA B xs o s).1 ∧
      MemIs w' bm B (putA B xs o s).2.2 (Grow F w w') ∧ Ext F w w' := by
  obtain ⟨bh, bk, es, hm, rfl, hF⟩ := h
  have hB := bounds_of hk
  have hlen : es.length ≤ 1000000 := by simp only [kepts, List.length_map] at hl; omega
  have same : ∀ (w' : World), Ext Nope w w' → MemIs w' bm B (kepts es) (Grow F w w') ∧ Ext F w w' := fun w' he =>
    ⟨⟨bh, bk, es, hm.ext he (fun _ _ z => z), rfl, fun b hb => .inl (hF b hb)⟩, he.mono (fun _ z => z.elim)⟩
  unfold putA
  by_cases hs : s < 0 ∨ 65536 < s
  · rw [if_pos hs]
    refine (put_arg hm o s hs).mono ?_
    rintro e w' ⟨rfl, he⟩
    exact ⟨_, rfl, World.ownsRow_nil _ _ _ _, same w' he⟩
  rw [if_neg hs]
  have s1 : 0 ≤ s := by omega
  have s2 : s ≤ 65536 := by omega
  have hpb := pinned_bounds _ hB.size
  have hub := hB.used
  have hhi := hB.hi
  have fin : ∀ (es0 : List (Nat × Kept)) (pin : Bool), kepts es0 = restK o (kepts es) → pin = pinFlag (kepts es) o → (∀ x ∈ es0, x ∈ es) → ∀ (e : Ending) (w' : World), PutOK w bm bh bk B es0 es ⟨o, s, pin⟩ e w' →
      ∃ v, e = .returned (.tuple #[v, .int .i64 0]) ∧ KeysAt w' w.heap.size v (evictK B (usedOf (restK o (kepts es)) + s) (restK o (kepts es))).1 ∧
        MemIs w' bm B ((evictK B (usedOf (restK o (kepts es)) + s) (restK o (kepts es))).2 ++ [⟨o, s, pinFlag (kepts es) o⟩]) (Grow F w w') ∧ Ext F w w' := by
    intro es0 pin he0 hp hsub e w' hput
    obtain ⟨v, E, hr, hks, hm', hE, hx⟩ := hput
    obtain ⟨g1, g2⟩ := evict_kepts B es0 (usedOf (kepts es0) + s)
    rw [he0] at g1 g2 hks hm'
    simp only at hks hm'
    rw [g1] at hks
    refine ⟨v, hr, hks, ⟨bh, bk, _, hm', by rw [kepts_append, g2, hp]; rfl, fun b hb => ?_⟩, hx.mono hF⟩
    rcases hb with hb | hb | hb | hb
    · exact .inl (hF b (.inl hb))
    · exact .inl (hF b (.inr (.inl hb)))
    · exact .inl (hF b (.inr (.inr (.inl hb))))
    · have hb0 := hb
      rw [blks, List.map_append, List.mem_append] at hb
      rcases hb with hb | hb
      · obtain ⟨y, hy, rfl⟩ := List.mem_map.1 hb
        exact .inl (hF _ (.inr (.inr (.inr (List.mem_map_of_mem (hsub y ((evict_sub B es0 _).subset hy)))))))
      · simp only [List.map_cons, List.map_nil, List.mem_singleton] at hb
        subst hb
        exact .inr ⟨hE, hm'.lt (.inr (.inr (.inr hb0)))⟩
  cases hg : getK (kepts es) o with
  | none =>
    obtain ⟨g1, g2⟩ := getK_none hg
    have ho : o ∉ keysOf es := fun hx => by
      rw [keysOf_kepts] at hx
      obtain ⟨y, hy, e⟩ := List.mem_map.1 hx
      exact g1 y hy e
    have hpf : pinFlag (kepts es) o = false := by unfold pinFlag; rw [hg]
    rw [g2] at fin ⊢
    by_cases hf : B < pinnedOf (kepts es) + s
    · rw [if_pos hf]
      refine (put_full_miss hm hB o s s1 s2 ho _ rfl hpb.1 (by omega) hf).mono ?_
      rintro e w' ⟨rfl, he⟩
      exact ⟨_, rfl, World.ownsRow_nil _ _ _ _, same w' he⟩
    · rw [if_neg hf]
      exact (put_miss hm hB o s s1 s2 ho _ rfl hpb.1 (by omega) hlen (by omega)).mono (fin es false rfl hpf.symm (fun _ hx => hx))
  | some x =>
    obtain ⟨a, b, hab, hxo, ha, hb, hr⟩ := getK_some hk.keys hg
    obtain ⟨l, p, r, rfl, rfl, rfl, rfl⟩ := split_es hab
    have hpf : pinFlag (kepts (l ++ p :: r)) o = p.2.pinned := by unfold pinFlag; rw [hg]
    have hrr : restK o (kepts (l ++ p :: r)) = kepts (l ++ r) := by rw [hr]; simp [kepts]
    have hsum : pinnedOf (kepts (l ++ p :: r)) = pinnedOf (kepts (l ++ r)) + pinOf p.2 := by
      simp only [kepts, List.map_append, List.map_cons, pinnedOf_append, pinnedOf_cons]; omega
    have hsub : ∀ x ∈ l ++ r, x ∈ l ++ p :: r := fun x hx => by simp only [List.mem_append, List.mem_cons] at hx ⊢; rcases hx with h | h <;> simp [h]
    have hlen' : (l ++ p :: r).length ≤ 1000000 := hlen
    rw [hrr] at fin ⊢
    have hpsz := hB.size p (by simp)
    cases hpin : p.2.pinned
    · have e0 : pinOf p.2 = 0 := by simp [pinOf, hpin]
      rw [hpin] at hpf
      by_cases hf : B < pinnedOf (kepts (l ++ r)) + s
      · rw [if_pos hf]
        refine (put_full_hit hm hB o s s1 s2 hxo hpin _ rfl hpb.1 (by omega) (by omega)).mono ?_
        rintro e w' ⟨rfl, he⟩
        exact ⟨_, rfl, World.ownsRow_nil _ _ _ _, same w' he⟩
      · rw [if_neg hf]
        exact (put_hit hm hB o s s1 s2 hxo hpin _ rfl hpb.1 (by omega) hlen' (by omega)).mono (fin (l ++ r) false rfl hpf.symm hsub)
    · have e0 : pinOf p.2 = p.2.size := by simp [pinOf, hpin]
      rw [hpin] at hpf
      by_cases hf : B < pinnedOf (kepts (l ++ r)) + s
      · rw [if_pos hf]
        refine (put_full_pin hm hB o s s1 s2 hxo hpin _ rfl hpb.1 (by omega) (by omega)).mono ?_
        rintro e w' ⟨rfl, he⟩
        exact ⟨_, rfl, World.ownsRow_nil _ _ _ _, same w' he⟩
      · rw [if_neg hf]
        exact (put_pin hm hB o s s1 s2 hxo hpin _ rfl hpb.1 (by omega) hlen' (by omega)).mono (fin (l ++ r) true rfl hpf.symm hsub)

theorem rput_calls {w : World} {br : Nat} {B : Int} {xs : List Kept} {F : Nat → Prop} (h : RefIs w br B xs F) (hk : KOk B xs) (hl : xs.length ≤ 1000) (o : Own) (s : Int) :
    Calls Try.prog 34 #[ptr br, o.val, .int .i64 s] w fun e w' => ∃ v, e = .returned (.tuple #[v, .int .i64 (putA B xs o s).2.1]) ∧ KeysAt w' w.heap.size v (putA B xs o s).1 ∧
      RefIs w' br B (putA B xs o s).2.2 (Grow F w w') ∧ Ext F w w' := by
  obtain ⟨v, hm, hF⟩ := h
  have hlen : xs.length ≤ 1000000 := by omega
  have same : ∀ (w' : World), Ext Nope w w' → RefIs w' br B xs (Grow F w w') ∧ Ext F w w' := fun w' he =>
    ⟨⟨v, hm.ext he (fun z => z) (fun _ _ z => z), fun b hb => .inl (hF b hb)⟩, he.mono (fun _ z => z.elim)⟩
  unfold putA
  by_cases hs : s < 0 ∨ 65536 < s
  · rw [if_pos hs]
    refine (rput_arg hm o s hs).mono ?_
    rintro e w' ⟨rfl, he⟩
    exact ⟨_, rfl, World.ownsRow_nil _ _ _ _, same w' he⟩
  rw [if_neg hs]
  have s1 : 0 ≤ s := by omega
  have s2 : s ≤ 65536 := by omega
  have fin : ∀ (pin : Bool), pin = pinFlag xs o → ∀ (e : Ending) (w' : World), RPutOK w br B v (restK o xs) ⟨o, s, pin⟩ e w' →
      ∃ u, e = .returned (.tuple #[u, .int .i64 0]) ∧ KeysAt w' w.heap.size u (evictK B (usedOf (restK o xs) + s) (restK o xs)).1 ∧
        RefIs w' br B ((evictK B (usedOf (restK o xs) + s) (restK o xs)).2 ++ [⟨o, s, pinFlag xs o⟩]) (Grow F w w') ∧ Ext F w w' := by
    rintro pin rfl e w' ⟨out, u, hr, hks, hm', hx, hown⟩
    refine ⟨out, hr, hks, ⟨u, hm', fun b hb => ?_⟩, hx.mono hF⟩
    rcases hb with rfl | hb
    · exact .inl (hF _ (.inl rfl))
    · rcases hown b hb with e | e
      · exact .inr ⟨e, (hm'.list.lt b hb).2⟩
      · exact .inl (hF _ (.inr e))
  by_cases hf : B < pinnedOf (restK o xs) + s
  · rw [if_pos hf]
    refine (rput_full hm ⟨hk.lo, hk.hi⟩ hk.size hk.used o s s1 s2 hlen hf).mono ?_
    rintro e w' ⟨rfl, he⟩
    exact ⟨_, rfl, World.ownsRow_nil _ _ _ _, same w' he⟩
  rw [if_neg hf]
  cases hg : getK xs o with
  | none =>
    obtain ⟨g1, g2⟩ := getK_none hg
    have hpf : pinFlag xs o = false := by unfold pinFlag; rw [hg]
    refine (rput_miss hm ⟨hk.lo, hk.hi⟩ hk.size hk.used o s s1 s2 hlen (by omega) g1).mono fun e w' hh => fin false hpf.symm e w' ?_
    rw [g2]; exact hh
  | some x =>
    obtain ⟨a, b, rfl, hxo, ha, hb, hr⟩ := getK_some hk.keys hg
    have hpf : pinFlag (a ++ x :: b) o = x.pinned := by unfold pinFlag; rw [hg]
    refine (rput_hit hm ⟨hk.lo, hk.hi⟩ hk.size hk.used o s s1 s2 hlen (by rw [← hr]; omega) hxo ha hb).mono fun e w' hh => fin x.pinned hpf.symm e w' ?_
    rw [hr]; exact hh

theorem miss_keys {es : List (Nat × Kept)} {o : Own} (h : ∀ y ∈ kepts es, y.key ≠ o) : o ∉ keysOf es := fun hx => by
  rw [keysOf_kepts] at hx
  obtain ⟨y, hy, e⟩ := List.mem_map.1 hx
  exact h y hy e
theorem foot_grow {bm bh bk : Nat} {es es' : List (Nat × Kept)} {F : Nat → Prop} {w w' : World} (hF : ∀ b, Foot bm bh bk es b → F b) (hs : ∀ b ∈ blks es', b ∈ blks es) : ∀ b, Foot bm bh bk es' b → Grow F w w' b := by
  intro b hb
  rcases hb with hb | hb | hb | hb
  · exact .inl (hF b (.inl hb))
  · exact .inl (hF b (.inr (.inl hb)))
  · exact .inl (hF b (.inr (.inr (.inl hb))))
  · exact .inl (hF b (.inr (.inr (.inr (hs b hb)))))

theorem muse_calls {w : World} {bm : Nat} {B : Int} {xs : List Kept} {F : Nat → Prop} (h : MemIs w bm B xs F) (hk : KOk B xs) (o : Own) :
    Calls Try.prog 14 #[ptr bm, o.val] w fun e w' => e = .returned (.bool (useA xs o).1) ∧ MemIs w' bm B (useA xs o).2 (Grow F w w') ∧ Ext F w w' := by
  obtain ⟨bh, bk, es, hm, rfl, hF⟩ := h
  unfold useA
  cases hg : getK (kepts es) o with
  | none =>
    obtain ⟨g1, g2⟩ := getK_none hg
    refine (use_none _ o w (FindsNone.miss hm o (miss_keys g1))).mono ?_
    rintro e w' ⟨rfl, he⟩
    exact ⟨rfl, ⟨bh, bk, es, hm.ext he (fun _ _ z => z), rfl, fun b hb => .inl (hF b hb)⟩, he.mono (fun _ z => z.elim)⟩
  | some x =>
    obtain ⟨a, b, hab, hxo, ha, hb, hr⟩ := getK_some hk.keys hg
    obtain ⟨l, p, r, rfl, rfl, rfl, rfl⟩ := split_es hab
    refine (use_hit hm o hxo).mono ?_
    rintro e w' ⟨rfl, hm', he⟩
    refine ⟨rfl, ⟨bh, bk, _, hm', ?_, foot_grow hF fun b hb => ?_⟩, he.mono hF⟩
    · rw [kepts_append, kepts_append, hr]; rfl
    · obtain ⟨y, hy, rfl⟩ := List.mem_map.1 hb
      exact List.mem_map_of_mem (mem_move.1 hy)

theorem mpin_calls {w : World} {bm : Nat} {B : Int} {xs : List Kept} {F : Nat → Prop} (h : MemIs w bm B xs F) (hk : KOk B xs) (o : Own) (on : Bool) :
    Calls Try.prog 15 #[ptr bm, o.val, .bool on] w fun e w' => e = .returned (.int .i64 (pinA xs o on).1) ∧ MemIs w' bm B (pinA xs o on).2 (Grow F w w') ∧ Ext F w w' := by
  obtain ⟨bh, bk, es, hm, rfl, hF⟩ := h
  unfold pinA
  cases hg : getK (kepts es) o with
  | none =>
    obtain ⟨g1, g2⟩ := getK_none hg
    refine (pin_none _ o on w (FindsNone.miss hm o (miss_keys g1))).mono ?_
    rintro e w' ⟨rfl, he⟩
    exact ⟨rfl, ⟨bh, bk, es, hm.ext he (fun _ _ z => z), rfl, fun b hb => .inl (hF b hb)⟩, he.mono (fun _ z => z.elim)⟩
  | some x =>
    obtain ⟨a, b, hab, hxo, ha, hb, hr⟩ := getK_some hk.keys hg
    obtain ⟨l, p, r, rfl, rfl, rfl, rfl⟩ := split_es hab
    refine (pin_hit hm (bounds_of hk) o hxo on).mono ?_
    rintro e w' ⟨rfl, hm', he⟩
    refine ⟨rfl, ⟨bh, bk, _, hm', ?_, foot_grow hF fun b hb => ?_⟩, he.mono hF⟩
    · rw [hab, List.map_append, List.map_cons, kepts_append]
      have e1 : ∀ ys : List Kept, (∀ y ∈ ys, y.key ≠ o) → ys.map (fun x => if x.key = o then (⟨x.key, x.size, on⟩ : Kept) else x) = ys := by
        intro ys hys
        refine (List.map_congr_left fun y hy => ?_).trans (List.map_id ys)
        rw [if_neg (hys y hy)]; rfl
      rw [e1 _ ha, e1 _ hb, if_pos hxo]
      rfl
    · simpa [blks, setPin] using hb

theorem mdrop_calls {w : World} {bm : Nat} {B : Int} {xs : List Kept} {F : Nat → Prop} (h : MemIs w bm B xs F) (hk : KOk B xs) (o : Own) :
    Calls Try.prog 16 #[ptr bm, o.val] w fun e w' => e = .returned (.int .i64 (dropA xs o).1) ∧ MemIs w' bm B (dropA xs o).2 (Grow F w w') ∧ Ext F w w' := by
  obtain ⟨bh, bk, es, hm, rfl, hF⟩ := h
  unfold dropA
  cases hg : getK (kepts es) o with
  | none =>
    obtain ⟨g1, g2⟩ := getK_none hg
    refine (drop_none _ o w (FindsNone.miss hm o (miss_keys g1))).mono ?_
    rintro e w' ⟨rfl, he⟩
    exact ⟨rfl, ⟨bh, bk, es, hm.ext he (fun _ _ z => z), rfl, fun b hb => .inl (hF b hb)⟩, he.mono (fun _ z => z.elim)⟩
  | some x =>
    obtain ⟨a, b, hab, hxo, ha, hb, hr⟩ := getK_some hk.keys hg
    obtain ⟨l, p, r, rfl, rfl, rfl, rfl⟩ := split_es hab
    cases hp : p.2.pinned
    · refine (drop_hit hm (bounds_of hk) o hxo hp).mono ?_
      rintro e w' ⟨rfl, hm', he⟩
      refine ⟨by simp [hp], ⟨bh, bk, _, hm', ?_, foot_grow hF fun b hb => ?_⟩, he.mono hF⟩
      · simp only [hp, Bool.false_eq_true, if_false]; rw [kepts_append, hr]
      · obtain ⟨y, hy, rfl⟩ := List.mem_map.1 hb
        refine List.mem_map_of_mem ?_
        simp only [List.mem_append, List.mem_cons] at hy ⊢; rcases hy with h | h <;> simp [h]
    · refine (drop_pinned hm p (by simp) o hxo hp).mono ?_
      rintro e w' ⟨rfl, he⟩
      refine ⟨by simp [hp], ?_, he.mono (fun _ z => z.elim)⟩
      simp only [hp, if_true]
      exact ⟨bh, bk, _, hm.ext he (fun _ _ z => z), rfl, fun b hb => .inl (hF b hb)⟩

theorem mlist_calls {w : World} {bm : Nat} {B : Int} {xs : List Kept} {F : Nat → Prop} (h : MemIs w bm B xs F) (hl : xs.length ≤ 1000) :
    Calls Try.prog 18 #[ptr bm] w fun e w' => ∃ v, e = .returned v ∧ KeysAt w' w.heap.size v (keysK xs) ∧ Ext Nope w w' := by
  obtain ⟨bh, bk, es, hm, rfl, hF⟩ := h
  refine (list_walk hm (by simp only [kepts, List.length_map] at hl; omega)).mono ?_
  rintro e w' ⟨v, hr, hks, he⟩
  rw [keysOf_kepts] at hks
  exact ⟨v, hr, hks, he⟩
theorem mused_calls {w : World} {bm : Nat} {B : Int} {xs : List Kept} {F : Nat → Prop} (h : MemIs w bm B xs F) :
    Calls Try.prog 19 #[ptr bm] w fun e w' => e = .returned (.int .i64 (usedOf xs)) ∧ w = w' := by
  obtain ⟨bh, bk, es, hm, rfl, hF⟩ := h
  exact used_rep hm

theorem kok_nil {B : Int} (h1 : 0 ≤ B) (h2 : B ≤ 1073741824) : KOk B [] := ⟨h1, h2, by simp, by simpa [usedOf] using h1, by simp [keysK]⟩

theorem mnew_calls (n : Int) (w : World) (h1 : 0 ≤ n) (h2 : n ≤ 1073741824) : Calls Try.prog 12 #[.int .i64 n] w fun e w' => ∃ bm, e = .returned (ptr bm) ∧ MemIs w' bm n [] (fun b => w.heap.size ≤ b ∧ b < w'.heap.size) ∧ Ext Nope w w' := by
  refine (new_good n w h1 h2).mono ?_
  rintro e w' ⟨bm, bh, bk, rfl, hm, _, he, hf⟩
  exact ⟨bm, rfl, ⟨bh, bk, [], hm, rfl, fun b hb => ⟨hf b hb, hm.lt hb⟩⟩, he⟩

theorem ruse_calls {w : World} {br : Nat} {B : Int} {xs : List Kept} {F : Nat → Prop} (h : RefIs w br B xs F) (hk : KOk B xs) (hl : xs.length ≤ 1000) (o : Own) :
    Calls Try.prog 31 #[ptr br, o.val] w fun e w' => e = .returned (.bool (useA xs o).1) ∧ RefIs w' br B (useA xs o).2 (Grow F w w') ∧ Ext F w w' := by
  obtain ⟨v, hm, hF⟩ := h
  unfold useA
  cases hg : getK xs o with
  | none =>
    obtain ⟨g1, g2⟩ := getK_none hg
    refine (ruse_none _ o w (RFindsNone.miss hm o g1 (by omega))).mono ?_
    rintro e w' ⟨rfl, he⟩
    exact ⟨rfl, ⟨v, hm.ext he (fun z => z) (fun _ _ z => z), fun b hb => .inl (hF b hb)⟩, he.mono (fun _ z => z.elim)⟩
  | some x =>
    obtain ⟨a, b, rfl, hxo, ha, hb, hr⟩ := getK_some hk.keys hg
    refine (ruse_hit hm o hxo ha (by omega)).mono ?_
    rintro e w' ⟨rfl, u, hm', he, hu⟩
    refine ⟨rfl, ⟨u, by rw [hr]; exact hm', fun b hb => ?_⟩, he.mono hF⟩
    rcases hb with rfl | hb
    · exact .inl (hF _ (.inl rfl))
    · exact .inr ⟨hu b hb, (hm'.list.lt b hb).2⟩
theorem rpin_calls {w : World} {br : Nat} {B : Int} {xs : List Kept} {F : Nat → Prop} (h : RefIs w br B xs F) (hk : KOk B xs) (hl : xs.length ≤ 1000) (o : Own) (on : Bool) :
    Calls Try.prog 32 #[ptr br, o.val, .bool on] w fun e w' => e = .returned (.int .i64 (pinA xs o on).1) ∧ RefIs w' br B (pinA xs o on).2 (Grow F w w') ∧ Ext F w w' := by
  obtain ⟨v, hm, hF⟩ := h
  unfold pinA
  cases hg : getK xs o with
  | none =>
    obtain ⟨g1, g2⟩ := getK_none hg
    refine (rpin_none _ o on w (RFindsNone.miss hm o g1 (by omega))).mono ?_
    rintro e w' ⟨rfl, he⟩
    exact ⟨rfl, ⟨v, hm.ext he (fun z => z) (fun _ _ z => z), fun b hb => .inl (hF b hb)⟩, he.mono (fun _ z => z.elim)⟩
  | some x =>
    obtain ⟨a, b, rfl, hxo, ha, hb, hr⟩ := getK_some hk.keys hg
    refine (rpin_hit hm o hxo ha (by omega) on).mono ?_
    rintro e w' ⟨rfl, hm', he⟩
    refine ⟨rfl, ⟨v, ?_, fun b hb => .inl (hF b hb)⟩, he.mono hF⟩
    have e1 : ∀ ys : List Kept, (∀ y ∈ ys, y.key ≠ o) → ys.map (fun x => if x.key = o then (⟨x.key, x.size, on⟩ : Kept) else x) = ys := by
      intro ys hys
      refine (List.map_congr_left fun y hy => ?_).trans (List.map_id ys)
      rw [if_neg (hys y hy)]; rfl
    rw [List.map_append, List.map_cons, e1 _ ha, e1 _ hb, if_pos hxo]
    exact hm'
theorem rdrop_calls {w : World} {br : Nat} {B : Int} {xs : List Kept} {F : Nat → Prop} (h : RefIs w br B xs F) (hk : KOk B xs) (hl : xs.length ≤ 1000) (o : Own) :
    Calls Try.prog 33 #[ptr br, o.val] w fun e w' => e = .returned (.int .i64 (dropA xs o).1) ∧ RefIs w' br B (dropA xs o).2 (Grow F w w') ∧ Ext F w w' := by
  obtain ⟨v, hm, hF⟩ := h
  unfold dropA
  cases hg : getK xs o with
  | none =>
    obtain ⟨g1, g2⟩ := getK_none hg
    refine (rdrop_none _ o w (RFindsNone.miss hm o g1 (by omega))).mono ?_
    rintro e w' ⟨rfl, he⟩
    exact ⟨rfl, ⟨v, hm.ext he (fun z => z) (fun _ _ z => z), fun b hb => .inl (hF b hb)⟩, he.mono (fun _ z => z.elim)⟩
  | some x =>
    obtain ⟨a, b, rfl, hxo, ha, hb, hr⟩ := getK_some hk.keys hg
    cases hp : x.pinned
    · refine (rdrop_hit hm o hxo ha (by omega) hp).mono ?_
      rintro e w' ⟨rfl, u, hm', he, hu⟩
      refine ⟨by simp [hp], ⟨u, by simp only [hp, Bool.false_eq_true, if_false]; rw [hr]; exact hm', fun b hb => ?_⟩, he.mono hF⟩
      rcases hb with rfl | hb
      · exact .inl (hF _ (.inl rfl))
      · exact .inr ⟨hu b hb, (hm'.list.lt b hb).2⟩
    · refine (rdrop_pinned hm o hxo ha (by omega) hp).mono ?_
      rintro e w' ⟨rfl, he⟩
      refine ⟨by simp [hp], ?_, he.mono (fun _ z => z.elim)⟩
      simp only [hp, if_true]
      exact ⟨v, hm.ext he (fun z => z) (fun _ _ z => z), fun b hb => .inl (hF b hb)⟩
theorem rlist_calls {w : World} {br : Nat} {B : Int} {xs : List Kept} {F : Nat → Prop} (h : RefIs w br B xs F) (hl : xs.length ≤ 1000) :
    Calls Try.prog 25 #[ptr br] w fun e w' => ∃ v, e = .returned v ∧ KeysAt w' w.heap.size v (keysK xs) ∧ Ext Nope w w' := by
  obtain ⟨v, hm, hF⟩ := h
  exact rlist_walk hm (by omega)
theorem rused_calls {w : World} {br : Nat} {B : Int} {xs : List Kept} {F : Nat → Prop} (h : RefIs w br B xs F) (hk : KOk B xs) (hl : xs.length ≤ 1000) :
    Calls Try.prog 24 #[ptr br] w fun e w' => e = .returned (.int .i64 (usedOf xs)) ∧ w = w' := by
  obtain ⟨v, hm, hF⟩ := h
  have h1 := hk.used
  have h2 := hk.hi
  exact rused_walk hm (by omega) hk.size (by omega)
theorem rnew_calls (n : Int) (w : World) (h1 : 0 ≤ n) (h2 : n ≤ 1073741824) : Calls Try.prog 22 #[.int .i64 n] w fun e w' => ∃ br, e = .returned (ptr br) ∧ RefIs w' br n [] (fun b => w.heap.size ≤ b ∧ b < w'.heap.size) ∧ Ext Nope w w' := by
  refine (rnew_good n w h1 h2).mono ?_
  rintro e w' ⟨rfl, hm, he⟩
  refine ⟨_, rfl, ⟨_, hm, fun b hb => ?_⟩, he⟩
  rcases hb with rfl | hb
  · exact ⟨Nat.le_refl _, lt_of_heap hm.self⟩
  · simp [Value.ownBlock] at hb

end Go.Proofs.Ytkloaadaicklfaa
