/-
  The reference's Write and both plans, in every case.
-/
import Derived.Test.YtmmcadbkmfjcbaaDoorE8
import Derived.Test.YtmmcadbkmfjcbaaDoorD2
namespace Go.Proofs.YtmmcadbkmfjcbaaDoor
open Go.RowKit
attribute [local go_sem] alloc_drewN setCell_drewN

theorem rwriteA_bad {p : Ref} {c : R} {xs : List Nat} (h : validA p.w p.rows.length c xs = false) : rwriteA p c xs = (1, p) := by unfold rwriteA; rw [if_neg (by rw [h]; simp)]
/-- abugidaref33.Write -/
theorem rwrite_calls {w : World} {base b : Nat} {rv v : Value} {p : Ref} {xs : List Nat} {c : R} (h : RefAt w base b rv p) (ok : RefOK p) (hr : Reads w v xs) (hsep : ∀ g, v.ownBlock = some g → ¬ Foot b rv g) (hu : U64 xs) (hc : c.i64) (hl : xs.length ≤ 100000) :
    Calls Tryd.prog 36 #[ptr b, c.val, v] w (RWriteOf w base b rv (rwriteA p c xs)) := by
  by_cases hw0 : p.w = 0
  · have e : rwriteA p c xs = (1, p) := by unfold rwriteA; rw [if_neg (by simp [hw0])]
    rw [e]
    exact rwrite_zero c v h hw0
  · cases hin : inB c p.w p.rows.length with
    | false =>
      have e := rwriteA_bad (p := p) (c := c) (xs := xs) (by unfold validA; rw [hin]; rfl)
      rw [e]
      exact rwrite_out h ok hr hu hc hl hw0 hin
    | true =>
      by_cases hlen : (xs.length : Int) = c.h
      · exact rwrite_in h ok hr hsep hu hc hl hw0 hin hlen
      · have e := rwriteA_bad (p := p) (c := c) (xs := xs) (by unfold validA; rw [hin, decide_eq_false hlen]; rfl)
        rw [e]
        exact rwrite_len h ok hr hu hc hl hw0 hin hlen

set_option maxRecDepth 100000 in
set_option maxHeartbeats 2000000 in
theorem plan_bad {w : World} {av1 av2 : Option Addr} {m1 m2 c1 c2 : Nat} (n many : Int) (hm1 : m1 ≤ 9223372036854775807) (_hm2 : m2 ≤ 9223372036854775807) (hb : ¬ (1 ≤ n ∧ n ≤ 64 ∧ m1 = m2 ∧ m1 ≤ 64 ∧ 1 ≤ many)) : Calls Tryd.prog 22 #[.slice av1 m1 c1, .slice av2 m2 c2, .int .i64 n, .int .i64 many] w (RectsOf w []) := by
  by_cases q1 : n < 1
  · have f1 : decide (n < 1) = true := decide_eq_true q1
    clear hb
    refine (callsIn_wide (n := 3)).1 (callsIn_of_wp_marks Tryd.func22 rfl trivial ?_)
    simp only [Tryd.ntmps22, List.size_toArray, List.length_cons, List.length_nil, Nat.reduceAdd, Nat.reduceSub, Array.replicate_succ, Array.replicate_zero, List.push_toArray, List.append_toArray, List.nil_append, List.cons_append]
    refine wpIn_wide.2 ?_
    go_wp2
    exact ⟨.slice none 0 0, results_tmp (t := 8) rfl _ _ _, _, rfl, World.ownsRow_nil _ _ _ _, Ext.refl _ _⟩
  · by_cases q2 : 64 < n
    · have f1 : decide (n < 1) = false := decide_eq_false q1
      have f2 : decide (64 < n) = true := decide_eq_true q2
      clear hb
      refine (callsIn_wide (n := 3)).1 (callsIn_of_wp_marks Tryd.func22 rfl trivial ?_)
      simp only [Tryd.ntmps22, List.size_toArray, List.length_cons, List.length_nil, Nat.reduceAdd, Nat.reduceSub, Array.replicate_succ, Array.replicate_zero, List.push_toArray, List.append_toArray, List.nil_append, List.cons_append]
      refine wpIn_wide.2 ?_
      go_wp2
      exact ⟨.slice none 0 0, results_tmp (t := 8) rfl _ _ _, _, rfl, World.ownsRow_nil _ _ _ _, Ext.refl _ _⟩
    · by_cases q3 : m1 ≠ m2
      · have f1 : decide (n < 1) = false := decide_eq_false q1
        have f2 : decide (64 < n) = false := decide_eq_false q2
        have f3 := (neq_nat q3).2
        have f3' := (neq_nat q3).1
        clear hb
        refine (callsIn_wide (n := 3)).1 (callsIn_of_wp_marks Tryd.func22 rfl trivial ?_)
        simp only [Tryd.ntmps22, List.size_toArray, List.length_cons, List.length_nil, Nat.reduceAdd, Nat.reduceSub, Array.replicate_succ, Array.replicate_zero, List.push_toArray, List.append_toArray, List.nil_append, List.cons_append]
        refine wpIn_wide.2 ?_
        go_wp2
        exact ⟨.slice none 0 0, results_tmp (t := 8) rfl _ _ _, _, rfl, World.ownsRow_nil _ _ _ _, Ext.refl _ _⟩
      · by_cases q4 : 64 < m1
        · have f1 : decide (n < 1) = false := decide_eq_false q1
          have f2 : decide (64 < n) = false := decide_eq_false q2
          have f3 := (eq_nat (show m1 = m2 by omega)).2
          have f3' := (eq_nat (show m1 = m2 by omega)).1
          have f4 : decide (64 < m1) = true := decide_eq_true q4
          have f4i : decide ((64 : Int) < (m1 : Int)) = true := by simp; omega
          clear hb
          refine (callsIn_wide (n := 3)).1 (callsIn_of_wp_marks Tryd.func22 rfl trivial ?_)
          simp only [Tryd.ntmps22, List.size_toArray, List.length_cons, List.length_nil, Nat.reduceAdd, Nat.reduceSub, Array.replicate_succ, Array.replicate_zero, List.push_toArray, List.append_toArray, List.nil_append, List.cons_append]
          refine wpIn_wide.2 ?_
          go_wp2
          exact ⟨.slice none 0 0, results_tmp (t := 8) rfl _ _ _, _, rfl, World.ownsRow_nil _ _ _ _, Ext.refl _ _⟩
        · by_cases q5 : many < 1
          · have f1 : decide (n < 1) = false := decide_eq_false q1
            have f2 : decide (64 < n) = false := decide_eq_false q2
            have f3 := (eq_nat (show m1 = m2 by omega)).2
            have f3' := (eq_nat (show m1 = m2 by omega)).1
            have f4 : decide (64 < m1) = false := decide_eq_false q4
            have f5 : decide (many < 1) = true := decide_eq_true q5
            have f4i : decide ((64 : Int) < (m1 : Int)) = false := by simp; omega
            clear hb
            refine (callsIn_wide (n := 3)).1 (callsIn_of_wp_marks Tryd.func22 rfl trivial ?_)
            simp only [Tryd.ntmps22, List.size_toArray, List.length_cons, List.length_nil, Nat.reduceAdd, Nat.reduceSub, Array.replicate_succ, Array.replicate_zero, List.push_toArray, List.append_toArray, List.nil_append, List.cons_append]
            refine wpIn_wide.2 ?_
            go_wp2
            exact ⟨.slice none 0 0, results_tmp (t := 8) rfl _ _ _, _, rfl, World.ownsRow_nil _ _ _ _, Ext.refl _ _⟩
          · exact absurd ⟨by omega, by omega, by omega, by omega, by omega⟩ hb
set_option maxRecDepth 100000 in
set_option maxHeartbeats 2000000 in
theorem rplan_bad {w : World} {av1 av2 : Option Addr} {m1 m2 c1 c2 : Nat} (n many : Int) (hm1 : m1 ≤ 9223372036854775807) (_hm2 : m2 ≤ 9223372036854775807) (hb : ¬ (1 ≤ n ∧ n ≤ 64 ∧ m1 = m2 ∧ m1 ≤ 64 ∧ 1 ≤ many)) : Calls Tryd.prog 23 #[.slice av1 m1 c1, .slice av2 m2 c2, .int .i64 n, .int .i64 many] w (RectsOf w []) := by
  by_cases q1 : n < 1
  · have f1 : decide (n < 1) = true := decide_eq_true q1
    clear hb
    go_enter Tryd.func23, Tryd.ntmps23
    go_wp2
    go_ret
    exact ⟨_, rfl, World.ownsRow_nil _ _ _ _, Ext.refl _ _⟩
  · by_cases q2 : 64 < n
    · have f1 : decide (n < 1) = false := decide_eq_false q1
      have f2 : decide (64 < n) = true := decide_eq_true q2
      clear hb
      go_enter Tryd.func23, Tryd.ntmps23
      go_wp2
      go_ret
      exact ⟨_, rfl, World.ownsRow_nil _ _ _ _, Ext.refl _ _⟩
    · by_cases q3 : m1 ≠ m2
      · have f1 : decide (n < 1) = false := decide_eq_false q1
        have f2 : decide (64 < n) = false := decide_eq_false q2
        have f3 := (neq_nat q3).2
        have f3' := (neq_nat q3).1
        clear hb
        go_enter Tryd.func23, Tryd.ntmps23
        go_wp2
        go_ret
        exact ⟨_, rfl, World.ownsRow_nil _ _ _ _, Ext.refl _ _⟩
      · by_cases q4 : 64 < m1
        · have f1 : decide (n < 1) = false := decide_eq_false q1
          have f2 : decide (64 < n) = false := decide_eq_false q2
          have f3 := (eq_nat (show m1 = m2 by omega)).2
          have f3' := (eq_nat (show m1 = m2 by omega)).1
          have f4 : decide (64 < m1) = true := decide_eq_true q4
          have f4i : decide ((64 : Int) < (m1 : Int)) = true := by simp; omega
          clear hb
          go_enter Tryd.func23, Tryd.ntmps23
          go_wp2
          go_ret
          exact ⟨_, rfl, World.ownsRow_nil _ _ _ _, Ext.refl _ _⟩
        · by_cases q5 : many < 1
          · have f1 : decide (n < 1) = false := decide_eq_false q1
            have f2 : decide (64 < n) = false := decide_eq_false q2
            have f3 := (eq_nat (show m1 = m2 by omega)).2
            have f3' := (eq_nat (show m1 = m2 by omega)).1
            have f4 : decide (64 < m1) = false := decide_eq_false q4
            have f5 : decide (many < 1) = true := decide_eq_true q5
            have f4i : decide ((64 : Int) < (m1 : Int)) = false := by simp; omega
            clear hb
            go_enter Tryd.func23, Tryd.ntmps23
            go_wp2
            go_ret
            exact ⟨_, rfl, World.ownsRow_nil _ _ _ _, Ext.refl _ _⟩
          · exact absurd ⟨by omega, by omega, by omega, by omega, by omega⟩ hb

theorem okPlan {n many : Int} {xs ys : List Nat} (h : planOK n many xs ys) : ∃ n' many' : Nat, n = n' ∧ many = many' ∧ 1 ≤ n' ∧ n' ≤ 64 ∧ xs.length = ys.length ∧ xs.length ≤ 64 ∧ 1 ≤ many' := by
  obtain ⟨h1, h2, h3, h4, h5⟩ := h
  exact ⟨n.toNat, many.toNat, by omega, by omega, by omega, by omega, h3, h4, by omega⟩
/-- panel.Plan -/
theorem plan_calls {w : World} {v1 v2 : Value} {xs ys : List Nat} (n many : Int) (hr1 : Reads w v1 xs) (hr2 : Reads w v2 ys) (hT : Tab w) (hux : U64 xs) (huy : U64 ys) : Calls Tryd.prog 22 #[v1, v2, .int .i64 n, .int .i64 many] w (RectsOf w (planA n many xs ys)) := by
  by_cases h : planOK n many xs ys
  · obtain ⟨n', many', rfl, rfl, h1, h2, h3, h4, h5⟩ := okPlan h
    unfold planA
    rw [if_pos h]
    exact plan_ok n' many' hr1 hr2 hT hux huy h1 h2 h3 h4 h5
  · unfold planA
    rw [if_neg h]
    obtain ⟨a1, c1, rfl, g1, g2, _⟩ := hr1
    obtain ⟨a2, c2, rfl, k1, k2, _⟩ := hr2
    exact plan_bad n many (by omega) (by omega) (fun hh => h hh)
/-- What the reference plans. -/
def rplanA (n many : Int) (xs ys : List Nat) : List R := if planOK n many xs ys then thinA 1048576 many.toNat 65 (piecesF n.toNat xs ys) else []
theorem rplan_calls {w : World} {v1 v2 : Value} {xs ys : List Nat} (n many : Int) (hr1 : Reads w v1 xs) (hr2 : Reads w v2 ys) (hux : U64 xs) (huy : U64 ys) : Calls Tryd.prog 23 #[v1, v2, .int .i64 n, .int .i64 many] w (RectsOf w (rplanA n many xs ys)) := by
  by_cases h : planOK n many xs ys
  · obtain ⟨n', many', rfl, rfl, h1, h2, h3, h4, h5⟩ := okPlan h
    unfold rplanA
    rw [if_pos h]
    exact rplan_ok n' many' hr1 hr2 hux huy h1 h2 h3 h4 h5
  · unfold rplanA
    rw [if_neg h]
    obtain ⟨a1, c1, rfl, g1, g2, _⟩ := hr1
    obtain ⟨a2, c2, rfl, k1, k2, _⟩ := hr2
    exact rplan_bad n many (by omega) (by omega) (fun hh => h hh)
end Go.Proofs.YtmmcadbkmfjcbaaDoor
