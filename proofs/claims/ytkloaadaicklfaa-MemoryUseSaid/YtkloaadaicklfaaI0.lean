/-
  What is pinned stays, in plain lists.
-/
import Derived.Test.YtkloaadaicklfaaM0
namespace Go.Proofs.Ytkloaadaicklfaa
open Go.RowKit

/-- A key that is there, and pinned. -/
def PinIn (xs : List Kept) (o : Own) : Prop := ∃ s, (⟨o, s, true⟩ : Kept) ∈ xs

theorem mem_uniq {xs : List Kept} (hn : (keysK xs).Nodup) {x y : Kept} (hx : x ∈ xs) (hy : y ∈ xs) (h : x.key = y.key) : x = y := by
  induction xs with
  | nil => simp at hx
  | cons a xs ih =>
    simp only [keysK, List.map_cons, List.nodup_cons] at hn
    rcases List.mem_cons.1 hx with e1 | h1
    · rcases List.mem_cons.1 hy with e2 | h2
      · rw [e1, e2]
      · exact absurd (List.mem_map.2 ⟨y, h2, by rw [← h, e1]⟩) hn.1
    · rcases List.mem_cons.1 hy with e2 | h2
      · exact absurd (List.mem_map.2 ⟨x, h1, by rw [h, e2]⟩) hn.1
      · exact ih hn.2 h1 h2
theorem getK_mem {xs : List Kept} {o : Own} {x : Kept} (h : getK xs o = some x) : x ∈ xs ∧ x.key = o := by
  have h1 := List.mem_of_find?_eq_some h
  have h2 := List.find?_some h
  exact ⟨h1, by simpa using h2⟩
theorem getK_of_mem {xs : List Kept} (hn : (keysK xs).Nodup) {x : Kept} (hx : x ∈ xs) : getK xs x.key = some x := by
  cases hg : getK xs x.key with
  | none => exact absurd rfl ((getK_none hg).1 x hx)
  | some y => rw [mem_uniq hn (getK_mem hg).1 hx (getK_mem hg).2]
theorem mem_rest {xs : List Kept} {x : Kept} {o : Own} (hx : x ∈ xs) (h : x.key ≠ o) : x ∈ restK o xs := List.mem_filter.2 ⟨hx, by simpa using h⟩

theorem evictK_pin (B : Int) : ∀ (r : List Kept) (u : Int), ∀ p ∈ r, p.pinned = true → p ∈ (evictK B u r).2
  | [], _, p, hp, _ => by simp at hp
  | q :: r, u, p, hp, hpp => by
    simp only [evictK]
    split
    · split
      · rcases List.mem_cons.1 hp with rfl | hp
        · simp
        · exact List.mem_cons_of_mem _ (evictK_pin B r u p hp hpp)
      · rename_i h2
        rcases List.mem_cons.1 hp with rfl | hp
        · exact absurd hpp h2
        · exact evictK_pin B r _ p hp hpp
    · exact hp
theorem evictK_gone (B : Int) : ∀ (r : List Kept) (u : Int), ∀ k ∈ (evictK B u r).1, ∃ p ∈ r, p.key = k ∧ p.pinned = false
  | [], _, k, hk => by simp [evictK] at hk
  | q :: r, u, k, hk => by
    simp only [evictK] at hk
    split at hk
    · split at hk
      · obtain ⟨p, hp, h⟩ := evictK_gone B r u k hk
        exact ⟨p, List.mem_cons_of_mem _ hp, h⟩
      · rename_i h2
        rcases List.mem_cons.1 hk with rfl | hk
        · exact ⟨q, by simp, rfl, by simpa using h2⟩
        · obtain ⟨p, hp, h⟩ := evictK_gone B r _ k hk
          exact ⟨p, List.mem_cons_of_mem _ hp, h⟩
    · simp at hk

theorem pinIn_get {B : Int} {xs : List Kept} (h : KOk B xs) {o : Own} (hp : PinIn xs o) : ∃ s, getK xs o = some ⟨o, s, true⟩ := by
  obtain ⟨s, hs⟩ := hp
  exact ⟨s, getK_of_mem h.keys hs⟩
theorem pinIn_use {B : Int} {xs : List Kept} (h : KOk B xs) {o : Own} (hp : PinIn xs o) (x : Own) : PinIn (useA xs x).2 o := by
  obtain ⟨s, hs⟩ := hp
  unfold useA
  split
  · rename_i y hy
    by_cases hxo : o = x
    · subst hxo
      have := getK_of_mem h.keys hs
      rw [this] at hy
      cases hy
      exact ⟨s, by simp⟩
    · exact ⟨s, List.mem_append_left _ (mem_rest hs hxo)⟩
  · exact ⟨s, hs⟩
theorem pinIn_pin {xs : List Kept} {o : Own} (hp : PinIn xs o) (x : Own) (on : Bool) (hon : x = o → on = true) : PinIn (pinA xs x on).2 o := by
  obtain ⟨s, hs⟩ := hp
  unfold pinA
  split
  · refine ⟨s, List.mem_map.2 ⟨_, hs, ?_⟩⟩
    by_cases hxo : o = x
    · rw [if_pos hxo, hon hxo.symm]
    · rw [if_neg hxo]
  · exact ⟨s, hs⟩
theorem pinIn_drop {B : Int} {xs : List Kept} (h : KOk B xs) {o : Own} (hp : PinIn xs o) (x : Own) : PinIn (dropA xs x).2 o ∧ (x = o → (dropA xs x).1 = 51) := by
  obtain ⟨s, hs⟩ := hp
  by_cases hxo : x = o
  · subst hxo
    have e : dropA xs x = (51, xs) := by unfold dropA; rw [getK_of_mem h.keys hs]; rfl
    rw [e]; exact ⟨⟨s, hs⟩, fun _ => rfl⟩
  · refine ⟨?_, fun e => absurd e hxo⟩
    unfold dropA
    split
    · split
      · exact ⟨s, hs⟩
      · exact ⟨s, mem_rest hs (fun e => hxo e.symm)⟩
    · exact ⟨s, hs⟩
theorem pinIn_put {B : Int} {xs : List Kept} (h : KOk B xs) {o : Own} (hp : PinIn xs o) (x : Own) (z : Int) : PinIn (putA B xs x z).2.2 o ∧ o ∉ (putA B xs x z).1 := by
  obtain ⟨s, hs⟩ := hp
  unfold putA
  split
  · exact ⟨⟨s, hs⟩, by simp⟩
  split
  · exact ⟨⟨s, hs⟩, by simp⟩
  · refine ⟨?_, fun hg => ?_⟩
    · by_cases hxo : o = x
      · subst hxo
        have : pinFlag xs o = true := by unfold pinFlag; rw [getK_of_mem h.keys hs]
        exact ⟨z, by rw [this]; simp⟩
      · exact ⟨s, List.mem_append_left _ (evictK_pin _ _ _ _ (mem_rest hs hxo) rfl)⟩
    · obtain ⟨p, hp, hk, hpp⟩ := evictK_gone _ _ _ _ hg
      have := mem_uniq h.keys (restK_sub _ _ p hp) hs hk
      rw [this] at hpp
      simp at hpp

theorem putA_nil {B s : Int} (o : Own) (h0 : 0 ≤ s) (h1 : s ≤ 65536) : (B < s ∧ putA B [] o s = ([], 50, [])) ∨ (s ≤ B ∧ putA B [] o s = ([], 0, [⟨o, s, false⟩])) := by
  unfold putA
  rw [if_neg (by omega)]
  by_cases h : B < s
  · left
    exact ⟨h, by rw [if_pos (by simpa [restK, pinnedOf] using h)]⟩
  · right
    refine ⟨by omega, ?_⟩
    rw [if_neg (by simpa [restK, pinnedOf] using h)]
    simp [restK, evictK, pinFlag, getK]
theorem pin_one {s : Int} (o : Own) : pinA [⟨o, s, false⟩] o true = (0, [⟨o, s, true⟩]) := by
  simp [pinA, getK]
theorem pinIn_use1 {B : Int} {xs : List Kept} (h : KOk B xs) {o : Own} (hp : PinIn xs o) : (useA xs o).1 = true := by
  obtain ⟨s, hs⟩ := hp
  unfold useA
  rw [getK_of_mem h.keys hs]
theorem pinIn_pin1 {B : Int} {xs : List Kept} (h : KOk B xs) {o : Own} (hp : PinIn xs o) (on : Bool) : (pinA xs o on).1 = 0 ∧ ∃ s, (⟨o, s, on⟩ : Kept) ∈ (pinA xs o on).2 := by
  obtain ⟨s, hs⟩ := hp
  unfold pinA
  rw [getK_of_mem h.keys hs]
  exact ⟨rfl, s, List.mem_map.2 ⟨_, hs, by simp⟩⟩
theorem drop_off {B : Int} {xs : List Kept} (h : KOk B xs) {o : Own} {s : Int} (hs : (⟨o, s, false⟩ : Kept) ∈ xs) : dropA xs o = (0, restK o xs) := by
  unfold dropA
  rw [getK_of_mem h.keys hs]
  rfl
theorem use_rest (xs : List Kept) (o : Own) : (useA (restK o xs) o).1 = false := by
  have : getK (restK o xs) o = none := by
    cases hg : getK (restK o xs) o with
    | none => rfl
    | some x => exact absurd (List.mem_map.2 ⟨x, (getK_mem hg).1, (getK_mem hg).2⟩) rest_keys
  unfold useA
  rw [this]
theorem ours_trans {w0 a b c : World} {A A' : Nat → Prop} (h : Ext (Ours w0 A) a b) (e : Ext (Ours w0 A') b c) (hA : ∀ x, A x → A' x) : Ext (Ours w0 A) a c :=
  h.trans e fun b _ hb => ⟨hb.1, fun z => hb.2 (hA b z)⟩
theorem ours_trans3 {w0 a b b' c : World} {A A' : Nat → Prop} (h : Ext (Ours w0 A) a b) (e : Ext (Ours w0 A') b' c) (x : Ext Nope b b') (hA : ∀ x, A x → A' x) : Ext (Ours w0 A) a c :=
  (h.trans x fun _ _ z => z.elim).trans e fun b _ hb => ⟨hb.1, fun z => hb.2 (hA b z)⟩
theorem ours_nope {w0 a b : World} {A : Nat → Prop} (e : Ext Nope a b) : Ext (Ours w0 A) a b := e.mono fun _ z => z.elim

end Go.Proofs.Ytkloaadaicklfaa
