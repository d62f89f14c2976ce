/-
  The lines 'lookup' and 'rule'.
  sets.Norm of a set.
  sets.chosen of one set, sets.Norm.
-/
import Derived.Test.YtajebdpalnpjdaaGreatDoorM35
import Derived.Test.YtajebdpalnpjdaaGreatDoorM25
import Derived.Test.YtajebdpalnpjdaaGreatDoorM06
import Derived.Test.YtajebdpalnpjdaaGreatDoorM01
import Derived.Test.YtajebdpalnpjdaaGreatDoorM00
import Derived.Maps.RangeWalk
import Derived.Maps.OwnOps
import Derived.Sort.OwnSortedInts
import Derived.Test.YtajebdpalnpjdaaGreatDoorM07
namespace Go.Proofs.YtajebdpalnpjdaaGreatDoor
open Go.RowKit
attribute [local go_sem] alloc_drewN setCell_drewN

theorem joinC_not {c d : UInt8} (hd : c ≠ d) : ∀ (l : List (List UInt8)), (∀ p ∈ l, c ∉ p) → c ∉ joinC d l
  | [], _ => by simp [joinC]
  | [x], h => h x (by simp)
  | x :: y :: r, h => by
    intro hm
    have hm : c ∈ x ++ d :: joinC d (y :: r) := hm
    rcases List.mem_append.1 hm with hm | hm
    · exact h x (by simp) hm
    · rcases List.mem_cons.1 hm with hm | hm
      · exact hd hm
      · exact joinC_not hd (y :: r) (fun p hp => h p (List.mem_cons_of_mem _ hp)) hm
theorem joinN_not {c d : UInt8} (hd : c ≠ d) (h1 : c ≠ 45) (h2 : c.toNat < 48 ∨ 57 < c.toNat) (l : List Int) : c ∉ (joinB d (l.map num)).data.toList := by
  rw [joinB_list]
  refine joinC_not hd _ fun p hp => ?_
  obtain ⟨q, hq, rfl⟩ := List.mem_map.1 hp
  obtain ⟨n, _, rfl⟩ := List.mem_map.1 hq
  exact num_not h1 h2
theorem setS_sp {c : UInt8} (hc : c ≠ 123 ∧ c ≠ 125 ∧ c ≠ 44) (h1 : c ≠ 45) (h2 : c.toNat < 48 ∨ 57 < c.toNat) (s : List Int) : c ∉ (setS s).data.toList := by
  rw [setS_list]
  intro h
  rcases List.mem_cons.1 h with h | h
  · exact hc.1 h
  · rcases List.mem_append.1 h with h | h
    · exact joinN_not hc.2.2 h1 h2 s h
    · exact hc.2.1 (by simpa using h)
theorem callS_sp {c : UInt8} (hc : c ≠ 58) (h1 : c ≠ 45) (h2 : c.toNat < 48 ∨ 57 < c.toNat) (p : Int × Int) : c ∉ (callS p).data.toList := joinN_not hc h1 h2 [p.1, p.2]
/-- A byte that is in no word of a rule. -/
theorem ruleW_not {c : UInt8} (hc : c ≠ 123 ∧ c ≠ 125 ∧ c ≠ 44) (h58 : c ≠ 58) (h1 : c ≠ 45) (h2 : c.toNat < 48 ∨ 57 < c.toNat) (hb : c ∉ k_bar.data.toList) (hgt : c ∉ k_gt.data.toList) (hw : c ∉ w_call.data.toList) (r : RuleA) : ∀ p ∈ ruleW r, c ∉ p.data.toList := by
  have hs : ∀ (l : List (List Int)) (p : ByteArray), p ∈ l.map setS → c ∉ p.data.toList := fun l p hp => by
    obtain ⟨s, _, rfl⟩ := List.mem_map.1 hp
    exact setS_sp hc h1 h2 s
  intro p hp
  unfold ruleW at hp
  rcases List.mem_append.1 hp with hp | hp
  · exact hs _ p hp
  rcases List.mem_cons.1 hp with rfl | hp
  · exact hb
  rcases List.mem_append.1 hp with hp | hp
  · exact hs _ p hp
  rcases List.mem_cons.1 hp with rfl | hp
  · exact hb
  rcases List.mem_append.1 hp with hp | hp
  · exact hs _ p hp
  unfold endsS at hp
  split at hp
  · rcases List.mem_cons.1 hp with rfl | hp
    · exact hgt
    · obtain ⟨n, _, rfl⟩ := List.mem_map.1 hp
      exact num_not h1 h2
  · rcases List.mem_cons.1 hp with rfl | hp
    · exact hw
    · obtain ⟨n, _, rfl⟩ := List.mem_map.1 hp
      exact callS_sp h58 h1 h2 n
/-- A line 'lookup N' -/
theorem line_lookup {w : World} (G : Glob w) {rb base : Nat} (hb : 11 ≤ rb) (hrb : rb < base) (hbw : base ≤ w.heap.size) {v0 vh vL : Value} {cs : List Value} (h : RB w rb cs v0) {before : ByteArray} (hbe : cs[11]? = some (.string before)) (hin : Lib.containsS ((kinds.drop 0).take 5) before = true) {n : Int} (h1 : -9999999 ≤ n) (h2 : n ≤ 9999999)
    {hs : List (Int × Value)} {ls : List Value} (hg : cs[7]? = some vh) (hg2 : cs[9]? = some vL) (ho : OwnH w base vh hs) (ho2 : OwnL w base vL ls) (hl : hs.length ≤ 100000) (hl2 : ls.length ≤ 100000) :
    Calls Tryz.prog 11 #[ptr rb, .string (joinB 32 [k_lookup, num n])] w fun e w' => e = .returned (.bool true) ∧ (∃ vh' vL' u, RB w' rb (((cs.set 7 vh').set 9 vL').set 11 (.string k_lookup)) u ∧ OwnH w' base vh' (hs ++ [(n, .slice none 0 0)]) ∧ OwnL w' base vL' (ls ++ [.slice none 0 0])) ∧ Ext (fun b => b = rb ∨ vh.ownBlock = some b ∨ vL.ownBlock = some b) w w' := by
  have hsz := num_size (n := n) (by omega) (by omega)
  have hlt : ∀ b, vh.ownBlock = some b → base ≤ b ∧ b < w.heap.size := World.ownsRow.lt ho
  have hlt2 : ∀ b, vL.ownBlock = some b → base ≤ b ∧ b < w.heap.size := World.ownsRow.lt ho2
  refine (line_good G hb h (kind := k_lookup) (ws := [num n]) (fun p hp => ?_) ?_ hbe (fl := (kinds.drop 0).take 5) (fun W GW => follows_lookup GW) hin (isG := false) (by decide)
    (Q := fun W w' => ∃ vh' vL', RL w' rb (fun b => w.heap.size < b ∧ b < W.heap.size) ((cs.set 7 vh').set 9 vL') [] ∧ OwnH w' base vh' (hs ++ [(n, Value.slice none 0 0)]) ∧ OwnL w' base vL' (ls ++ [Value.slice none 0 0]) ∧ Ext (fun b => b = rb ∨ vh.ownBlock = some b ∨ vL.ownBlock = some b) W w')
    (fun W e r GW => core_lookup GW hb hrb (Nat.le_trans hbw e.size) r h1 h2 hg hg2 (fun b hB => ⟨fun z => absurd (hlt b z).2 (by omega), fun z => absurd (hlt2 b z).2 (by omega)⟩) (own_ext ho e (fun g hg' z => by have := (hlt g hg').1; have z : g = rb := z; omega)) (own_ext ho2 e (fun g hg' z => by have := (hlt2 g hg').1; have z : g = rb := z; omega)) hl hl2)
    (fun W w' e q => by
      obtain ⟨vh', vL', q1, q2, q3, q4⟩ := q
      exact ⟨⟨_, _, q1⟩, _, q4, fun z => z.elim (fun z => absurd h.lt (by omega)) (fun z => z.elim (fun z => absurd (hlt _ z).2 (by omega)) (fun z => absurd (hlt2 _ z).2 (by omega)))⟩)).mono ?_
  · simp only [List.mem_cons, List.not_mem_nil, or_false] at hp
    rcases hp with rfl | rfl
    · decide
    · exact num_not (by decide) (by decide)
  · have e : (joinB 32 [k_lookup, num n]).size = 7 + (num n).size := by
      have hh : ∀ b : ByteArray, b.size = b.data.toList.length := fun b => rfl
      rw [hh, hh, joinB_list]
      simp [joinC]
      omega
    omega
  · rintro e w' ⟨rfl, W, w1, eW, ⟨vh', vL', q1, q2, q3, q4⟩, hz, e3, hr⟩
    obtain ⟨u, hu⟩ := hr _ _ q1
    refine ⟨rfl, ⟨vh', vL', u, hu, own_ext q2 e3 (fun g hg' z => ?_), own_ext q3 e3 (fun g hg' z => ?_)⟩, ?_⟩
    · rcases z with z | z
      · have := (World.ownsRow.lt q2 g hg').1; omega
      · exact own_ne q2 hz (by decide) (by rw [← z]; exact hg')
    · rcases z with z | z
      · have := (World.ownsRow.lt q3 g hg').1; omega
      · exact own_ne q3 hz (by decide) (by rw [← z]; exact hg')
    · exact (Ext.back eW q4 e3).mono (fun b z => z.elim (fun z => Or.inl z) id)
/-- A line of a rule -/
theorem line_rule {w : World} (G : Glob w) (hg64 : 11 ≤ w.heap.size) {rb base base2 : Nat} (hb : 11 ≤ rb) (hrb : rb < base) (hbb : base ≤ base2) (hbw : base2 ≤ w.heap.size) {v0 vL vr : Value} {cs : List Value} (h : RB w rb cs v0) {before : ByteArray} (hbe : cs[11]? = some (.string before)) (hin : Lib.containsS ((kinds.drop 3).take 2) before = true) {r : RuleA} (hrr : RuleR r) (hs : (joinB 32 (k_rule :: ruleW r)).size ≤ 100000)
    {ls us : List Value} {q : Nat} (hcs : cs[9]? = some vL) (ho : OwnL w base vL (ls ++ [vr])) (hgl : ls.length ≤ 100000) (hk : OwnR w base2 vr q us) (hkl : q ≤ 100000) :
    Calls Tryz.prog 11 #[ptr rb, .string (joinB 32 (k_rule :: ruleW r))] w fun e w' => e = .returned (.bool true) ∧ (∃ vr' vb vi va vo vc u, RB w' rb (cs.set 11 (.string k_rule)) u ∧ OwnL w' base vL (ls ++ [vr']) ∧ OwnR w' base2 vr' (q + 1) (us ++ [vb, vi, va, vo, vc]) ∧ OwnRule w' w.heap.size vb vi va vo vc r) ∧ Ext (fun b => b = rb ∨ vL.ownBlock = some b ∨ vr.ownBlock = some b) w w' := by
  have hlt : ∀ b, vL.ownBlock = some b → base ≤ b ∧ b < w.heap.size := World.ownsRow.lt ho
  have hlt2 : ∀ b, vr.ownBlock = some b → base2 ≤ b ∧ b < w.heap.size := World.ownsRow.lt hk
  refine (line_good G hb h (kind := k_rule) (ws := ruleW r) (fun p hp => ?_) hs hbe (fl := (kinds.drop 3).take 2) (fun W GW => follows_rule GW) hin (isG := false) (by decide)
    (Q := fun W w' => ∃ vr' vb vi va vo vc, RL w' rb (fun b => w.heap.size < b ∧ b < W.heap.size) cs [] ∧ OwnL w' base vL (ls ++ [vr']) ∧ OwnR w' base2 vr' (q + 1) (us ++ [vb, vi, va, vo, vc]) ∧ OwnRule w' W.heap.size vb vi va vo vc r ∧ Ext (fun b => b = rb ∨ vL.ownBlock = some b ∨ vr.ownBlock = some b) W w')
    (fun W e r' GW => core_rule GW (Nat.le_trans hg64 e.size) hb hrb hbb (Nat.le_trans hbw e.size) hrr r' hcs (fun b hB => ⟨hB.2, fun z => absurd (hlt b z).2 (by omega), fun z => absurd (hlt2 b z).2 (by omega)⟩) (own_ext ho e (fun g hg' z => by have := (hlt g hg').1; have z : g = rb := z; omega)) hgl (own_ext hk e (fun g hg' z => by have := (hlt2 g hg').1; have z : g = rb := z; omega)) hkl)
    (fun W w' e q => by
      obtain ⟨vr', vb, vi, va, vo, vc, q1, q2, q3, q4, q5⟩ := q
      exact ⟨⟨_, _, q1⟩, _, q5, fun z => z.elim (fun z => absurd h.lt (by omega)) (fun z => z.elim (fun z => absurd (hlt _ z).2 (by omega)) (fun z => absurd (hlt2 _ z).2 (by omega)))⟩)).mono ?_
  · rcases List.mem_cons.1 hp with rfl | hp
    · decide
    · exact ruleW_not (by decide) (by decide) (by decide) (by decide) (by decide) (by decide) (by decide) r p hp
  · rintro e w' ⟨rfl, W, w1, eW, ⟨vr', vb, vi, va, vo, vc, q1, q2, q3, q4, q5⟩, hz, e3, hr⟩
    obtain ⟨u, hu⟩ := hr _ _ q1
    refine ⟨rfl, ⟨vr', vb, vi, va, vo, vc, u, hu, own_ext q2 e3 (fun g hg' z => ?_), own_ext q3 e3 (fun g hg' z => ?_), (q4.ext e3 (fun b cs T fz hb' hh hT z => ?_)).mono eW.size⟩, ?_⟩
    · rcases z with z | z
      · have := (World.ownsRow.lt q2 g hg').1; omega
      · exact own_ne q2 hz (by decide) (by rw [← z]; exact hg')
    · rcases z with z | z
      · have := (World.ownsRow.lt q3 g hg').1; omega
      · exact own_ne q3 hz (by decide) (by rw [← z]; exact hg')
    · rcases z with z | z
      · have := h.lt; have := eW.size; omega
      · have z : b = w.heap.size := z
        rw [z, hz] at hh
        have : T = 4 := by simpa using (Obj.cells.inj (Option.some.inj hh)).2.1.symm
        revert hT; rw [this]; decide
    · exact (Ext.back eW q5 e3).mono (fun b z => z.elim (fun z => Or.inl z) id)
end Go.Proofs.YtajebdpalnpjdaaGreatDoor
namespace Go.Proofs.YtajebdpalnpjdaaGreatDoor
open Go.RowKit Go.Maps
attribute [local go_sem] alloc_drewN setCell_drewN

theorem lawI : Keyed Tryz.prog 3 := int_keyed Tryz.underlying3
theorem zeroU (w : World) : (zeroValue 114).run Tryz.prog w = .ok (.int .u64 0) w := by kernel_rfl
abbrev kI (n : Int) : Lit := .int .i64 n
abbrev oneU : DataW Unit := .lit (.int .u64 1)
/-- What has been put in. -/
def setD (l : List Int) : DataW Unit := setOf oneU (l.map kI)
theorem setD_key (l : List Int) : ∀ x ∈ l.map kI, WideAt.IsKeyLit x := fun x hx => by
  obtain ⟨n, _, rfl⟩ := List.mem_map.1 hx
  trivial
theorem setD_has (l : List Int) (x : Int) : has (setD l) (kI x) = decide (x ∈ l) := by
  unfold setD
  rw [has_setOf _ _ _ (setD_key l)]
  induction l with
  | nil => rfl
  | cons y l ih =>
    have ih := ih
    simp only [List.map_cons, List.any_cons, List.mem_cons]
    rw [ih]
    by_cases h : x = y
    · subst h; simp [Lit.sameKey]
    · have h2 : ¬ y = x := fun z => h z.symm
      simp [Lit.sameKey, h, h2]
theorem setD_snoc (l : List Int) (x : Int) : (setD l).put (kI x) oneU = setD (l ++ [x]) := by
  unfold setD
  rw [List.map_append, List.map_cons, List.map_nil, setOf_snoc]
theorem setD_size {l : List Int} (h : l.Nodup) : size (setD l) = l.length := by
  have key : ∀ (l acc : List Int), (acc ++ l).Nodup → size (setD acc) = acc.length → size ((l.map kI).foldl (fun m x => m.put x oneU) (setD acc)) = (acc ++ l).length := by
    intro l
    induction l with
    | nil =>
      intro acc h hs
      simpa using hs
    | cons x l ih =>
      intro acc h hs
      simp only [List.map_cons, List.foldl_cons]
      have h1 := List.nodup_append.1 h
      rw [setD_snoc, ih (acc ++ [x]) (by simpa using h)]
      · simp
      · rw [← setD_snoc, size_put (show Tidy (setD acc) from tidy_setOf _ _ (setD_key acc)), setD_has, if_neg (by simp; exact fun hx => h1.2.2 x hx x (by simp) rfl), hs]
        simp
  have := key l [] (by simpa using h) rfl
  simpa [setD, setOf] using this
/-- What has been met: no number twice; just those that are no longer to come. -/
def ColI (D0 : DataW Unit) (left : Lit → Bool) (ss : List Int) : Prop := ss.Nodup ∧ ∀ x, x ∈ ss ↔ (has D0 (kI x) = true ∧ left (kI x) = false)
theorem ColI.start (D0 : DataW Unit) : ColI D0 (has D0) [] := ⟨List.nodup_nil, fun x => by cases has D0 (kI x) <;> simp⟩
theorem ColI.step {D0 : DataW Unit} {left : Lit → Bool} {ss : List Int} (h : ColI D0 left ss) {x : Int} {y : DataW Unit} (hlk : left (kI x) = true) (hat : ∀ zd, D0.atKey (kI x) zd = y) : ColI D0 (fun z => left z && !z.sameKey (kI x)) (ss ++ [x]) := by
  have hhas : has D0 (kI x) = true := has_true_of_atKey hat
  have hnew : x ∉ ss := fun hx => by have := ((h.2 x).1 hx).2; rw [hlk] at this; cases this
  refine ⟨List.nodup_append.2 ⟨h.1, by simp, fun a ha b hb => by simp at hb; subst hb; exact fun e => hnew (e ▸ ha)⟩, fun y => ?_⟩
  by_cases hy : y = x
  · subst hy; simp [hhas, Lit.sameKey]
  · simp [h.2 y, hy, Lit.sameKey]
theorem ColI.perm {l : List Int} (hl : l.Nodup) {left : Lit → Bool} {ss : List Int} (h : ColI (setD l) left ss) (h0 : ∀ kl, left kl = false) : ss.Perm l := by
  refine (List.perm_ext_iff_of_nodup h.1 hl).2 fun x => ?_
  rw [h.2 x, h0, setD_has]
  simp
/-- A set: its numbers go up. -/
def Incr (l : List Int) : Prop := l.Pairwise (· < ·)
theorem Incr.nodup {l : List Int} (h : Incr l) : l.Nodup := h.imp (fun h => by omega)
theorem sort_perm {l ss : List Int} (h : Incr l) (hp : ss.Perm l) : (ss.mergeSort fun x y => decide (x ≤ y)) = l := by
  have tr : ∀ a b c : Int, decide (a ≤ b) = true → decide (b ≤ c) = true → decide (a ≤ c) = true := fun a b c h1 h2 => by simp only [decide_eq_true_eq] at *; omega
  have ttl : ∀ a b : Int, (decide (a ≤ b) || decide (b ≤ a)) = true := fun a b => by simp only [Bool.or_eq_true, decide_eq_true_eq]; omega
  refine List.Perm.eq_of_pairwise (le := fun a b => decide (a ≤ b) = true) (fun a b _ _ h1 h2 => ?_) (List.pairwise_mergeSort tr ttl ss) (h.imp fun h => by simp only [decide_eq_true_eq]; omega) ((List.mergeSort_perm ss _).trans hp)
  simp only [decide_eq_true_eq] at h1 h2
  omega
theorem wf_i64' {n : Int} (h : i64 n) : (Lit.int .i64 n).wf = true := WalkArith.wf_i64 h
theorem norm1_yes (w : World) (u : Value) : Calls Tryz.prog 73 #[u] w fun e w' => e = .returned (.bool true) ∧ w = w' := by
  go_enter Tryz.func73, Tryz.ntmps73
  go_wp2
  go_ret
  exact ⟨rfl, rfl⟩
theorem ent_norm1 : Enters 73 := enters_of Tryz.func73 (by kernel_rfl) rfl
end Go.Proofs.YtajebdpalnpjdaaGreatDoor
namespace Go.Proofs.YtajebdpalnpjdaaGreatDoor
open Go.RowKit Go.Maps
attribute [local go_sem] alloc_drewN setCell_drewN

abbrev OwnM (w : World) (mb n : Nat) (D : DataW Unit) : Prop := w.ownsMap Tryz.prog 3 (plainElem Tryz.prog 114) mb n D
set_option maxRecDepth 100000 in
set_option maxHeartbeats 8000000 in
/-- sets.chosen of one set, where all fits -/
theorem chosen_calls {w : World} {A : Nat → Prop} {v : Value} {l : List Int} (h : Rd A w [v] (intsD l)) (hs : Incr l) (hl : l.length ≤ 100000) {lb T : Nat} (hz : w.heap[lb]? = some (.cells #[v] T (0, 0))) :
    Calls Tryz.prog 72 #[.func (.func 73) #[] #[], .slice (some ⟨lb, 0, none⟩) 1 1] w fun e w' => ∃ u, e = .returned u ∧ OwnI w' w.heap.size u l ∧ Ext Nope w w' := by
  have HS := toHid hs
  have HR := toHid h
  obtain ⟨av, cv, hv, hc1, hc2, hi64, hat⟩ := h.ints_inv
  have HI6 := toHid hi64
  have HAT := toHid hat
  obtain ⟨n, HN⟩ : ∃ n, Hid (l.length = n) := ⟨_, rfl⟩
  rw [HN.out] at hv hl hc1
  subst hv
  have hmm := @run_makeMap Tryz.prog
  have hent := ent_norm1
  have hlb : lb < w.heap.size := lt_of_heap hz
  have HZ := toHid hz
  obtain ⟨i0, hi, hz0, hz1, hz2⟩ := info_parts info3
  have HI := toHid (show _ ∧ _ ∧ _ ∧ _ from ⟨hi, hz0, hz1, hz2⟩)
  clear h hs hz hi64 hat hi hz0 hz1 hz2
  obtain ⟨mb, HMB⟩ : ∃ mb, Hid (w.heap.size = mb) := ⟨_, rfl⟩
  go_enter Tryz.func72, Tryz.ntmps72
  go_wp2_with fail
  have hM0 : OwnM (w.alloc (.map #[] 0)) w.heap.size 0 (.map []) := World.ownsMap_made _ _ _ _
  have hE0 : Ext Nope w (w.alloc (.map #[] 0)) := (Ext.refl _ _).alloc _
  rw [HMB.out] at hM0 ⊢
  have H0 := toHid (show _ ∧ _ from ⟨hM0, hE0⟩)
  clear hM0 hE0
  go_loopw [16] (fun i wr => ∃ k : Nat, i = .int .i64 k ∧ k ≤ 1 ∧ OwnM wr mb (if k = 0 then 0 else n) (if k = 0 then .map [] else setD l) ∧ Ext Nope w wr) (fun i _ => 1 - (intOf i).toNat)
  case atStart => exact ⟨0, rfl, by omega, by simpa using H0.out.1, H0.out.2⟩
  case round =>
    obtain ⟨k, rfl, hk, hM, hE⟩ := hrel
    rename World => wr
    have hz := (hE.block lb hlb (fun z => z)).trans HZ.out
    have c0 : wr.cell? ⟨lb, 0, none⟩ = some (.slice av n cv) := by rw [show (⟨lb, 0, none⟩ : Addr) = at_ lb 0 from rfl, cell_of_blk hz]; rfl
    clear hz
    rcases Nat.eq_or_lt_of_le (Nat.zero_le k) with h0 | h0
    · have h0 : k = 0 := h0.symm
      subst h0
      have HM := toHid (show _ ∧ _ from ⟨(by simpa using hM : OwnM wr mb 0 (.map [])), hE⟩)
      clear hM hE
      go_wp2_with fail
      clear c0
      go_loopw [23] (fun i wv => ∃ j : Nat, i = .int .i64 j ∧ j ≤ n ∧ OwnM wv mb j (setD (l.take j)) ∧ Ext Nope w wv) (fun i _ => n - (intOf i).toNat)
      case atStart => exact ⟨0, rfl, Nat.zero_le _, HM.out.1, HM.out.2⟩
      case round =>
        obtain ⟨j, rfl, hj, hM, hE⟩ := hrel
        rename World => wv
        by_cases hjn : j < n
        · obtain ⟨x, hx⟩ := nth_some hjn HN.out
          have hxi := HI6.out x (List.mem_of_getElem? hx)
          obtain ⟨b, off, rfl, _, hb, hcells⟩ := HAT.out (by rw [HN.out]; omega)
          have cx : wv.cell? ⟨b, off + j, none⟩ = some (.int .i64 x) := (World.cell?_of_block (w := w) (hE.block b hb (fun z => z))).trans (hcells j x hx)
          have hnew : has (setD (l.take j)) (kI x) = false := by
            rw [setD_has, decide_eq_false_iff_not]
            intro hm
            obtain ⟨i, hi'⟩ := List.mem_iff_getElem?.1 hm
            have hij : i < j := by
              have := (List.getElem?_eq_some_iff.1 hi').1
              rw [List.length_take] at this
              omega
            rw [List.getElem?_take_of_lt hij] at hi'
            have h1 := (List.getElem?_eq_some_iff.1 hi').1
            have h2 := (List.getElem?_eq_some_iff.1 hx).1
            have := List.pairwise_iff_getElem.1 HS.out i j h1 h2 hij
            rw [(List.getElem?_eq_some_iff.1 hi').2, (List.getElem?_eq_some_iff.1 hx).2] at this
            omega
          have HK := toHid (show _ ∧ _ ∧ _ ∧ _ ∧ _ from ⟨hM, hE, hx, hxi, hnew⟩)
          have s1 : (0 : Int) ≤ (j : Int) := by omega
          have s2 : (j : Int) < (n : Int) := by omega
          have s3 : IntKind.i64.wrap ((j : Int) + 1) = (j : Int) + 1 := IntWalk.i64_in _ (by omega)
          clear hM hE hx hxi hnew hcells
          go_upto_region 8 with fail
          refine wp_region_head 6 (fun w' => OwnM w' mb j (setD (l.take j)) ∧ Ext Nope w w') (by kernel_rfl) (by kernel_rfl) ⟨HK.out.1, HK.out.2.1.drew⟩ (fun hO hHeld => ?_)
          refine wpAnyT_takeD (i := 0) (d := some 27) (v := ?_) hO rfl rfl (by kernel_rfl) (fun _ _ _ h => h) (Or.inl ⟨by rfl, ?_⟩) (by exact hHeld) ?_
          rotate_left
          · intro w' hSw
            go_simp
            try (with_reducible rfl)
          try simp only [Act.put, List.setIfInBounds_toArray, List.set_cons_zero, List.set_cons_succ]
          refine wpAnyT_takeD (i := 1) (d := some 28) (v := ?_) hO rfl rfl (by kernel_rfl) (fun _ _ _ h => h) (Or.inl ⟨by rfl, ?_⟩) (by exact hHeld) ?_
          rotate_left
          · intro w' hSw
            go_simp
            try (with_reducible rfl)
          try simp only [Act.put, List.setIfInBounds_toArray, List.set_cons_zero, List.set_cons_succ]
          refine wpAnyT_takeD (i := 2) (d := some 29) (v := ?_) hO rfl rfl (by kernel_rfl) (fun _ _ _ h => h) (Or.inl ⟨by rfl, ?_⟩) (by exact hHeld) ?_
          rotate_left
          · intro w' hSw
            obtain ⟨c, hrun, hat, _⟩ := hSw.1.lookup_int lawI Tryz.underlying226 Tryz.underlying114 (zeroU _) (keyOf_int_mk Tryz.underlying3 (wf_i64' HK.out.2.2.2.1))
            rw [atKey_of_not_has HK.out.2.2.2.2] at hat
            have hc : c = 0 := by simpa using hat.symm
            subst hc
            clear hat
            go_simp
            try (with_reducible rfl)
          try simp only [Act.put, List.setIfInBounds_toArray, List.set_cons_zero, List.set_cons_succ]
          refine wpAnyT_takeD (i := 3) (d := some 30) (v := ?_) hO rfl rfl (by kernel_rfl) (fun _ _ _ h => h) (Or.inl ⟨by rfl, ?_⟩) (by exact hHeld) ?_
          rotate_left
          · intro w' hSw
            go_simp
            try (with_reducible rfl)
          try simp only [Act.put, List.setIfInBounds_toArray, List.set_cons_zero, List.set_cons_succ]
          refine wpAnyT_takeD (i := 4) (d := some 31) (v := ?_) hO rfl rfl (by kernel_rfl) (fun _ _ _ h => h) (Or.inl ⟨by rfl, ?_⟩) (by exact hHeld) ?_
          rotate_left
          · intro w' hSw
            go_simp
            try (with_reducible rfl)
          try simp only [Act.put, List.setIfInBounds_toArray, List.set_cons_zero, List.set_cons_succ]
          refine wpAnyT_takeD (i := 5) (d := some 32) (v := ?_) hO rfl rfl (by kernel_rfl) (fun _ _ _ h => h) (Or.inl ⟨by rfl, ?_⟩) (by exact hHeld) ?_
          rotate_left
          · intro w' hSw
            go_simp
            try (with_reducible rfl)
          try simp only [Act.put, List.setIfInBounds_toArray, List.set_cons_zero, List.set_cons_succ]
          refine wpAnyT_done (by kernel_rfl) ⟨by kernel_rfl, ?_⟩
          simp only [List.drop_succ_cons, List.drop_zero]
          have hown := hHeld.1
          have hEE := hHeld.2
          clear hHeld hO
          go_wp2_with (first
            | (at_mapUpdate; refine wpList_mapUpdate_own _ rfl _ _ _ 226 rfl 3 114 lawI Tryz.underlying226 _ mb j _ rfl hown (by unfold maxLen; omega) _ _ _ rfl rfl (keyOf_int_mk Tryz.underlying3 (wf_i64' HK.out.2.2.2.1)) oneU [] (plainElem_int Tryz.underlying114 (by decide)) ?_; intro w1 hown1 hgrow1)
            | fail)
          have HW := toHid (show _ ∧ _ from ⟨hown1, Ext.grown hEE hgrow1 (fun k hk hlt => by cases hk; exact absurd hlt (by have := HMB.out; omega))⟩)
          clear hown hEE hown1 hgrow1
          go_roundw
          case rel =>
            refine ⟨j + 1, by go_num, by omega, ?_, HW.out.2⟩
            have h1 := HW.out.1
            rw [setD_snoc] at h1
            have hjl := (List.getElem?_eq_some_iff.1 HK.out.2.2.1).1
            have e : l.take (j + 1) = l.take j ++ [x] := by rw [List.take_succ_eq_append_getElem hjl, (List.getElem?_eq_some_iff.1 HK.out.2.2.1).2]
            rw [e]
            exact h1
          case measure => simp [intOf]; omega
        · have hjj : j = n := by omega
          subst hjj
          have HK := toHid (show _ ∧ _ from ⟨hM, hE⟩)
          clear hM hE
          go_wp2
          go_roundw
          case rel =>
            refine ⟨1, by go_num, by omega, ?_, HK.out.2⟩
            have h1 := HK.out.1
            rw [List.take_of_length_le (by rw [HN.out]; exact Nat.le_refl _)] at h1
            simpa using h1
          case measure => simp [intOf]
    · have h0 : k = 1 := by omega
      subst h0
      have hown : OwnM wr mb n (setD l) := by simpa using hM
      have HE := toHid hE
      clear hM hE c0
      obtain ⟨rr, HRR⟩ : ∃ rr, Hid (wr.heap.size = rr) := ⟨_, rfl⟩
      have hmr : mb < rr := by rw [← HRR.out]; exact hown.lt
      go_wp2_with (first
        | (at_range; refine wpList_range_own _ rfl _ 226 rfl 3 114 lawI Tryz.underlying226 _ mb n _ rfl hown ?_; rw [HRR.out]; intro w0 hrg0 hg0 hs0)
        | fail)
      have H1 := toHid (show _ ∧ _ ∧ _ from ⟨hrg0, Ext.grown HE.out hg0 (fun _ z _ => by cases z), hs0⟩)
      clear hrg0 hg0 hs0 hown
      go_frame
      go_loopw [10] (fun o wv => ∃ (left : Lit → Bool) (cnt : Nat) (ss : List Int), wv.ranges Tryz.prog 3 (plainElem Tryz.prog 114) mb rr n (setD l) left cnt ∧ ColI (setD l) left ss ∧ OwnI wv (rr + 1) o ss ∧ ss.length + cnt ≤ n ∧ Ext Nope w wv) (fun _ wv => wv.rangeLeft mb rr)
      case atStart => exact ⟨_, _, [], H1.out.1, ColI.start _, OwnI.nil _ _, by rw [setD_size HS.out.nodup, HN.out]; simp, H1.out.2.1⟩
      case round =>
        obtain ⟨left, cnt, ss, hrg, hC, hO, hcnt, hE⟩ := hrel
        rename World => wv
        have HK := toHid (show _ ∧ _ ∧ _ ∧ _ from ⟨hrg, hC, hO, hE⟩)
        obtain ⟨ao, co, ho, _, _, hgo⟩ := own_gen (show wv.ownsRow (rr + 1) 3 1 u10 ss.length _ from hO)
        obtain ⟨m, HM⟩ : ∃ m, Hid (ss.length = m) := ⟨_, rfl⟩
        rw [HM.out] at ho hcnt hgo
        subst ho
        clear hC hO hE
        go_wp2_with (first
          | (at_next; refine wpList_next_ranges_ii _ rfl _ rfl 3 114 .i64 .u64 lawI Tryz.underlying3 Tryz.underlying114 mb rr n _ _ _ rfl hrg ?_ ?_)
          | fail)
        · intro _ hl0
          have hp := HK.out.2.1.perm HS.out.nodup hl0
          have hpl : m = n := by rw [← HM.out, ← HN.out]; exact hp.length_eq
          subst hpl
          clear hrg hl0
          rcases Nat.eq_or_lt_of_le (Nat.zero_le m) with h0 | h0
          · have h0 : m = 0 := h0.symm
            subst h0
            go_wp2_with fail
            refine (Tryz.slices_Sort_int_none ao co _).mono ?_
            rintro e w2 ⟨rfl, rfl⟩
            go_wp2
            go_ret
            have hl0 : l = [] := List.length_eq_zero_iff.1 HN.out
            have hs0 : ss = [] := List.length_eq_zero_iff.1 HM.out
            refine ⟨_, rfl, ?_, HK.out.2.2.2⟩
            have h1 := HK.out.2.2.1
            rw [hs0] at h1
            rw [hl0]
            exact h1.mono (by have := HMB.out; omega)
          · obtain ⟨g, rfl⟩ := hgo h0
            have hOm : wv.ownsRow (rr + 1) 3 1 (.slice (some ⟨g, 0, none⟩) m co) m (intCells ss) := by
              have h := HK.out.2.2.1
              unfold OwnI at h
              rw [HM.out] at h
              exact h
            obtain ⟨_, ⟨hv0, _⟩ | ⟨g', cap', cur, hv0, hb0, hh0, hn0, hm0, hs0, ht0⟩⟩ := hOm
            · cases hv0
            · cases hv0
              have hH := Go.holds_of_blockI hh0 (ss := ss) (by rw [Nat.mul_one] at ht0; rw [HM.out]; exact ht0)
              have HSo := toHid (Tryz.slices_Sort_int g 0 co ss wv hH (lt_of_heap hh0) (by rw [HM.out]; omega))
              rw [HM.out] at HSo
              have HH := toHid (show _ ∧ _ ∧ _ ∧ _ ∧ _ from ⟨hb0, hh0, hn0, hm0, hs0⟩)
              clear hH hh0 hn0 hm0 hs0 ht0
              go_wp2_with fail
              refine HSo.out.mono ?_
              rintro e w2 ⟨rfl, q, os, hw2⟩
              rw [sort_perm HS.out hp] at hw2
              have HW := toHid hw2
              clear hw2 HSo
              go_wp2
              go_ret
              have hlen : l.length = ss.length := by rw [HN.out, HM.out]
              have o2 := Go.ownsRow_sortedI (n := q) (os := os) (ts := l) hlen HH.out.1 HH.out.2.1 (by rw [HM.out]; exact HH.out.2.2.1) HH.out.2.2.2.1 HH.out.2.2.2.2
              rw [← HW.out, HM.out] at o2
              refine ⟨_, rfl, ?_, ?_⟩
              · have o3 : OwnI w2 (rr + 1) (.slice (some ⟨g, 0, none⟩) m co) l := by
                  unfold OwnI
                  rw [HN.out]
                  exact o2
                exact o3.mono (by have := HMB.out; omega)
              · have hgr := Go.grownBy_sortedI (w := wv) (g := g) (n := q) (os := os) l.toArray
                rw [← HW.out] at hgr
                exact Ext.grown HK.out.2.2.2 hgr (fun k hk hlt => by cases hk; exact absurd hlt (by have := HMB.out; omega))
        · intro x c w1 cnt1 hwx hwc hlx hat hrg1 hlt hg1 hs1 hen
          have hS1 := toHid hs1
          have e1 : Ext (fun b => b = rr) wv w1 := Ext.grown (Ext.refl _ _) hg1 (fun k hk _ => by cases hk; rfl)
          have o1 : OwnI w1 (rr + 1) (.slice ao m co) ss := own_ext HK.out.2.2.1 e1 (fun g hg z => by have := (World.ownsRow.lt HK.out.2.2.1 g hg).1; have z : g = rr := z; omega)
          have hmr1 := hrg1.lt
          have H2 := toHid (show _ ∧ _ ∧ _ ∧ _ ∧ _ from ⟨hrg1, HK.out.2.1.step hlx hat, o1, (HK.out.2.2.2.trans (S := Nope) e1 (fun b hb z => by have z : b = rr := z; have := HE.out.size; have := HRR.out; omega) : Ext Nope w w1), hlt⟩)
          clear hs1 e1 hat hlx hrg1 hg1 hwx hwc
          go_wp2_with fail
          refine (norm1_yes _ _).mono ?_
          rintro e w2 ⟨rfl, rfl⟩
          have hown : w1.ownsRow (rr + 1) 3 1 (.slice ao m co) m (intCells ss) := by
            have h := o1
            unfold OwnI at h
            rw [HM.out] at h
            exact h
          clear o1
          obtain ⟨hi, hz0, hz1, hz2⟩ := HI.out
          go_wp2_with (first | (at_builtin; refine wpList_append_own _ rfl (.tmp 45) (.tmp 47) 24 rfl (rr + 1) 3 i0 _ 1 8 Tryz.underlying24 hi hz0 hz1 hz2 rfl (by decide) _ _ _ rfl (hown.alloc _) ⟨w1.heap.size, 0, none⟩ 1 1 (intCells [x]) rfl rfl (ints_at (heap_alloc_new w1 _)) (int_one _) (by unfold maxLen; omega) (by omega) (by have h1 := hmr1; simp; omega) ?_))
          intro v' w3 hown3 hgrow0 _
          have hgrow : World.grownBy _ w3 (Value.slice ao m co).ownBlock := hgrow0
          clear hgrow0
          have hne : ∀ b, b ≤ rr → some b ≠ (Value.slice ao m co).ownBlock := fun b hb z => by have := (World.ownsRow.lt hown b z.symm).1; omega
          have hO3 : OwnI w3 (rr + 1) v' (ss ++ [x]) := by
            unfold OwnI intCells
            rw [List.length_append, HM.out, List.map_append]
            exact hown3
          have HW := toHid (show _ ∧ _ ∧ _ from ⟨(H2.out.1.alloc _).kept hgrow (hne mb (by omega)) (hne rr (Nat.le_refl _)), hO3, Ext.grown (H2.out.2.2.2.1.alloc _) hgrow (fun g hg hlt => absurd hlt (by have := (World.ownsRow.lt hown g hg).1; have := HMB.out; omega))⟩)
          clear hown3 hgrow hown hi hz0 hz1 hz2 hO3 hne
          go_wp2
          go_roundw
          case rel => exact ⟨_, _, _, _, _, _, _, _, _, _, _, _, _, _, _, ⟨_, cnt1, ss ++ [x], HW.out.1, H2.out.2.1, HW.out.2.1, by rw [List.length_append, HM.out]; have := H2.out.2.2.2.2; simp; omega, HW.out.2.2⟩, rfl⟩
          case measure => rw [HW.out.1.left_eq, HK.out.1.left_eq]; exact H2.out.2.2.2.2
set_option maxHeartbeats 1000000 in
/-- sets.Norm of a set -/
theorem norm_calls {w : World} {A : Nat → Prop} {v : Value} {l : List Int} (h : Rd A w [v] (intsD l)) (hs : Incr l) (hl : l.length ≤ 100000) :
    Calls Tryz.prog 26 #[v] w fun e w' => ∃ u, e = .returned u ∧ OwnI w' w.heap.size u l ∧ Ext Nope w w' := by
  have e1 : Ext Nope w (w.alloc (.cells #[v] 24)) := (Ext.refl _ _).alloc _
  have HC := toHid (chosen_calls (h.ext0 e1) hs hl (heap_alloc_new w _))
  have hsz : Hid (w.heap.size ≤ (w.alloc (.cells #[v] 24)).heap.size) := e1.size
  have HE := toHid e1
  obtain ⟨a, c, hv, _⟩ := h.ints_inv
  generalize l.length = n at hv
  subst hv
  clear h hs hl e1
  go_enter Tryz.func26, Tryz.ntmps26
  go_wp2_with fail
  refine HC.out.mono ?_
  rintro e w2 ⟨u, rfl, o2, e2⟩
  have H2 := toHid (show _ ∧ _ from ⟨o2.mono hsz.out, ext0 HE.out e2⟩)
  clear o2 e2 HC
  go_wp2
  go_ret
  exact ⟨_, rfl, H2.out.1, H2.out.2⟩
end Go.Proofs.YtajebdpalnpjdaaGreatDoor
