/-
  rules.checkRule, rules.Check.
-/
import Derived.Test.YtajebdpalnpjdaaGreatDoorM38
namespace Go.Proofs.YtajebdpalnpjdaaGreatDoor
open Go.RowKit
attribute [local go_sem] alloc_drewN setCell_drewN

/-- A rule that is right. -/
structure RuleC (r : RuleA) (k L g : Int) : Prop where
  in0 : 0 < r.in_.length
  in4 : r.in_.length ≤ 4
  back : r.back.length ≤ 3
  ahead : r.ahead.length ≤ 3
  out : r.out.length ≤ 4
  calls : r.calls.length ≤ 3
  one : r.out.length = 0 ∨ r.calls.length = 0
  sets : ∀ s ∈ ctx r, SetG g s
  outs : ∀ x ∈ r.out, 0 ≤ x ∧ x < g
  callsOK : ∀ p ∈ r.calls, 0 ≤ p.1 ∧ p.1 < r.in_.length ∧ k < p.2 ∧ p.2 < L
theorem ctx_len (r : RuleA) : (ctx r).length = r.in_.length + (r.back.length + r.ahead.length) := by unfold ctx; simp
/-- All sets are right. -/
theorem says_sets {A : Nat → Prop} {W : World} {l : List (List Int)} {g : Int} (h : ∀ s ∈ l, SetG g s) : Says 167 #[] W (l.map intsD).length (El1 A (l.map intsD)) (fun _ => false) := by
  intro j W' u hj e' hu
  obtain ⟨x, hx, hrx⟩ := hu
  rw [List.getElem?_map] at hx
  obtain ⟨s, hs, rfl⟩ := Option.map_eq_some_iff.1 hx
  have hg := h s (List.mem_of_getElem? hs)
  exact wrong_calls hrx hg.1 hg.2.1 hg.2.2.1
theorem says_unk {A : Nat → Prop} {W : World} {l : List (List Int)} {g : Int} (h : ∀ s ∈ l, SetG g s) {gb : Nat} (hz : W.heap[gb]? = some (.cells #[.int .i64 g] 3 (0, 0))) : Says 162 #[ptr gb] W (l.map intsD).length (El1 A (l.map intsD)) (fun _ => false) := by
  intro j W' u hj e' hu
  obtain ⟨x, hx, hrx⟩ := hu
  rw [List.getElem?_map] at hx
  obtain ⟨s, hs, rfl⟩ := Option.map_eq_some_iff.1 hx
  have hg := h s (List.mem_of_getElem? hs)
  exact unk_calls hrx ((e'.block _ (lt_of_heap hz) (fun z => z)).trans hz) hg.2.2.2
set_option maxRecDepth 100000 in
set_option maxHeartbeats 4000000 in
/-- rules.checkRule of a right rule -/
theorem rule_check {A : Nat → Prop} {w : World} {cs : List Value} {r : RuleA} (hr : Rd A w cs (ruleD r)) {k L g : Int} (hc : RuleC r k L g) :
    Calls Tryz.prog 83 #[.agg cs.toArray, .int .i64 k, .int .i64 L, .int .i64 g] w fun e w' => e = .returned (.int .i64 0) ∧ Ext Nope w w' := by
  have HRD := toHid hr
  obtain ⟨a0, c0, a1, c1, a2, c2, a3, c3, a4, c4, rfl, _, _, _, h3', h4'⟩ := rule_parts hr
  have HC := toHid hc
  have HO := toHid (show _ ∧ _ from ⟨h3', h4'⟩)
  clear hr h3' h4'
  have hlen := ctx_len r
  have HLN := toHid (show 0 < (ctx r).length ∧ (ctx r).length ≤ 100000 from by have := hc.in0; have := hc.in4; have := hc.back; have := hc.ahead; omega)
  obtain ⟨m0, HM0⟩ : ∃ m, Hid (r.back.length = m) := ⟨_, rfl⟩
  obtain ⟨m1, HM1⟩ : ∃ m, Hid (r.in_.length = m) := ⟨_, rfl⟩
  obtain ⟨m2, HM2⟩ : ∃ m, Hid (r.ahead.length = m) := ⟨_, rfl⟩
  obtain ⟨m3, HM3⟩ : ∃ m, Hid (r.out.length = m) := ⟨_, rfl⟩
  obtain ⟨m4, HM4⟩ : ∃ m, Hid (r.calls.length = m) := ⟨_, rfl⟩
  have q0 := hc.back
  have q1 := hc.in0
  have q1' := hc.in4
  have q2 := hc.ahead
  have q3 := hc.out
  have q4 := hc.calls
  have q5 := hc.one
  rw [HM0.out] at q0
  rw [HM1.out] at q1 q1'
  rw [HM2.out] at q2
  rw [HM3.out] at q3 q5
  rw [HM4.out] at q4 q5
  rw [HM0.out, HM1.out, HM2.out, HM3.out, HM4.out] at HRD ⊢
  rw [HM3.out, HM4.out] at HO
  clear hc hlen
  have e1 : Ext Nope w ((((w.alloc (.cells #[.slice a0 m0 c0, .slice a1 m1 c1, .slice a2 m2 c2, .slice a3 m3 c3, .slice a4 m4 c4] 81)).alloc (.cells #[.int .i64 k] 3)).alloc (.cells #[.int .i64 L] 3)).alloc (.cells #[.int .i64 g] 3)) := ((((Ext.refl _ _).alloc _).alloc _).alloc _).alloc _
  have z0 : ((((w.alloc (.cells #[.slice a0 m0 c0, .slice a1 m1 c1, .slice a2 m2 c2, .slice a3 m3 c3, .slice a4 m4 c4] 81)).alloc (.cells #[.int .i64 k] 3)).alloc (.cells #[.int .i64 L] 3)).alloc (.cells #[.int .i64 g] 3)).heap[w.heap.size]? = some (.cells #[.slice a0 m0 c0, .slice a1 m1 c1, .slice a2 m2 c2, .slice a3 m3 c3, .slice a4 m4 c4] 81 (0, 0)) := by
    rw [heap_alloc_old _ _ _ (by simp; omega), heap_alloc_old _ _ _ (by simp; omega), heap_alloc_old _ _ _ (by simp)]
    exact heap_alloc_new w _
  have z1 : ((((w.alloc (.cells #[.slice a0 m0 c0, .slice a1 m1 c1, .slice a2 m2 c2, .slice a3 m3 c3, .slice a4 m4 c4] 81)).alloc (.cells #[.int .i64 k] 3)).alloc (.cells #[.int .i64 L] 3)).alloc (.cells #[.int .i64 g] 3)).heap[w.heap.size + 1]? = some (.cells #[.int .i64 k] 3 (0, 0)) := by
    rw [heap_alloc_old _ _ _ (by simp), heap_alloc_old _ _ _ (by simp)]
    exact heap_alloc_at _ _ _ (by simp)
  have z2 : ((((w.alloc (.cells #[.slice a0 m0 c0, .slice a1 m1 c1, .slice a2 m2 c2, .slice a3 m3 c3, .slice a4 m4 c4] 81)).alloc (.cells #[.int .i64 k] 3)).alloc (.cells #[.int .i64 L] 3)).alloc (.cells #[.int .i64 g] 3)).heap[w.heap.size + 2]? = some (.cells #[.int .i64 L] 3 (0, 0)) := by
    rw [heap_alloc_old _ _ _ (by simp)]
    exact heap_alloc_at _ _ _ (by simp)
  have z3 : ((((w.alloc (.cells #[.slice a0 m0 c0, .slice a1 m1 c1, .slice a2 m2 c2, .slice a3 m3 c3, .slice a4 m4 c4] 81)).alloc (.cells #[.int .i64 k] 3)).alloc (.cells #[.int .i64 L] 3)).alloc (.cells #[.int .i64 g] 3)).heap[w.heap.size + 3]? = some (.cells #[.int .i64 g] 3 (0, 0)) := heap_alloc_at _ _ _ (by simp)
  obtain ⟨d0, d1, d2, d3, d4⟩ := rule_cells z0
  have HB := toHid (show _ ∧ _ ∧ _ ∧ _ ∧ _ from ⟨e1, z0, z1, z2, z3⟩)
  clear e1 z0 z1 z2 z3
  have hent1 := ent_wrong
  have hent2 := ent_unk
  have hent3 := ent_wcall
  have p1 : ¬ ((m1 : Int) = 0) := by omega
  have p1' : ((m1 : Int) == 0) = false := by simp; omega
  have p2 : ¬ (4 < (m1 : Int)) := by omega
  have p3 : ¬ (3 < (m0 : Int)) := by omega
  have p4 : ¬ (3 < (m2 : Int)) := by omega
  have p5 : ¬ (4 < (m3 : Int)) := by omega
  have p6 : ¬ (3 < (m4 : Int)) := by omega
  have p7 : ¬ m1 = 0 := by omega
  have p8 : (m1 : Int) ≤ 4 := by omega
  have p9 : (m0 : Int) ≤ 3 := by omega
  have p10 : (m2 : Int) ≤ 3 := by omega
  have p11 : (m3 : Int) ≤ 4 := by omega
  have p12 : (m4 : Int) ≤ 3 := by omega
  go_enter Tryz.func83, Tryz.ntmps83
  have HD := toHid (show ∀ W, Ext Nope ((((w.alloc (.cells #[.slice a0 m0 c0, .slice a1 m1 c1, .slice a2 m2 c2, .slice a3 m3 c3, .slice a4 m4 c4] 81)).alloc (.cells #[.int .i64 k] 3)).alloc (.cells #[.int .i64 L] 3)).alloc (.cells #[.int .i64 g] 3)) W → _ ∧ _ ∧ _ ∧ _ ∧ _ from fun W e => rule_cells ((e.block _ (lt_of_heap HB.out.2.1) (fun z => z)).trans HB.out.2.1))
  rcases Nat.eq_zero_or_pos m3 with h30 | h30
  all_goals
    first
      | subst h30
      | (have h40 : m4 = 0 := by omega
         subst h40
         have h31 : 0 < (m3 : Int) := by omega)
    go_wp2_with fail
    generalize ((World.alloc _ _).alloc _).alloc (.cells #[.int .i64 g] 3) = wb at *
    refine (context_calls (HRD.out.ext0 HB.out.1) HLN.out.1 HLN.out.2).mono ?_
    rintro e w2 ⟨v, rfl, r2, e2⟩
    have hs := has_sets hent1 r2 (says_sets (g := g) HC.out.sets)
    rw [anyN_false] at hs
    obtain ⟨av, cv, hv, _⟩ := r2.len
    generalize ((ctx r).map intsD).length = nv at hv
    subst hv
    have H2 := toHid e2
    clear r2 e2
    go_wp2_with fail
    refine hs.mono ?_
    clear hs
    rintro e w3 ⟨rfl, e3⟩
    have H3 := toHid (ext0 H2.out e3)
    clear e3 d0 d1 d2 d3 d4
    obtain ⟨d0, d1, d2, d3, d4⟩ := HD.out w3 H3.out
    go_wp2_with fail
    refine (context_calls ((HRD.out.ext0 HB.out.1).ext0 H3.out) HLN.out.1 HLN.out.2).mono ?_
    rintro e w4 ⟨v, rfl, r4, e4⟩
    have H4 := toHid (ext0 H3.out e4)
    have hs := has_sets hent2 r4 (says_unk (g := g) HC.out.sets ((H4.out.block _ (lt_of_heap HB.out.2.2.2.2) (fun z => z)).trans HB.out.2.2.2.2))
    rw [anyN_false] at hs
    obtain ⟨av4, cv4, hv, _⟩ := r4.len
    generalize ((ctx r).map intsD).length = nv4 at hv
    subst hv
    clear r4 e4 d0 d1 d2 d3 d4
    go_wp2_with fail
    refine hs.mono ?_
    clear hs
    rintro e w5 ⟨rfl, e5⟩
    have H5 := toHid (ext0 H4.out e5)
    clear e5
    obtain ⟨d0, d1, d2, d3, d4⟩ := HD.out w5 H5.out
    go_wp2_with fail
    refine (unk_calls (((HO.out.1).ext0 HB.out.1).ext0 H5.out) ((H5.out.block _ (lt_of_heap HB.out.2.2.2.2) (fun z => z)).trans HB.out.2.2.2.2) HC.out.outs).mono ?_
    rintro e w6 ⟨rfl, e6⟩
    have H6 := toHid (ext0 H5.out e6)
    clear e6 d0 d1 d2 d3 d4
    obtain ⟨d0, d1, d2, d3, d4⟩ := HD.out w6 H6.out
    go_wp2_with fail
    have hs := has_calls (caps := #[ptr w.heap.size, ptr (w.heap.size + 1), ptr (w.heap.size + 2)]) (p := fun _ => false) hent3 (((HO.out.2).ext0 HB.out.1).ext0 H6.out) (fun j W' u hj e' hu => by
      obtain ⟨x, us, rfl, hx, hrx⟩ := hu
      rw [List.getElem?_map] at hx
      obtain ⟨p, hp, rfl⟩ := Option.map_eq_some_iff.1 hx
      obtain ⟨_, rfl, _, hrx⟩ := hrx.ri
      obtain ⟨_, rfl, _, hrx⟩ := hrx.ri
      obtain rfl := hrx.r_nil
      have hc := HC.out.callsOK p (List.mem_of_getElem? hp)
      rw [HM1.out] at hc
      have ee : Ext Nope wb W' := ext0 H6.out e'
      exact wcall_calls ((ee.block _ (lt_of_heap HB.out.2.1) (fun z => z)).trans HB.out.2.1) ((ee.block _ (lt_of_heap HB.out.2.2.1) (fun z => z)).trans HB.out.2.2.1) ((ee.block _ (lt_of_heap HB.out.2.2.2.1) (fun z => z)).trans HB.out.2.2.2.1) ⟨hc.1, hc.2.1⟩ hc.2.2)
    rw [anyN_false] at hs
    refine hs.mono ?_
    clear hs
    rintro e w7 ⟨rfl, e7⟩
    have H7 := toHid (ext0 H6.out e7)
    clear e7
    go_wp2
    go_ret
    exact ⟨rfl, ext0 HB.out.1 H7.out⟩
end Go.Proofs.YtajebdpalnpjdaaGreatDoor
