/-
  'PanelCuts' returns true for every input that can be read, whatever the rows and the rectangles are, and leaves the input as it was.
-/
import Derived.Test.YtmmcadbkmfjcbaaDoorG2
import Derived.Test.YtmmcadbkmfjcbaaDoorG1
import Derived.Test.YtmmcadbkmfjcbaaDoorTie
import Derived.Test.YtmmcadbkmfjcbaaDoorCards
import Derived.SevenTiedAt
namespace Go.Proofs.YtmmcadbkmfjcbaaDoor
open Go.ChangeShapes Go.WideShapes Go.ChangeAt Go.RowKit Go.Joins Go.Deep

set_option maxRecDepth 100000 in
theorem panelCuts_lifted (os : Os) (started : os.Started) (H : Type) (enc : TypeId × Value → H) :
    ReturnsInHanded {} Tryd.checked os 5 .any (fun w args => (Rows.panelCutsSpec.pre enc Tryd.prog Tryd.f5 Rows.panelCutsRow.domain false w args ∧ laidMet Tryd.prog laidHere w) ∧ sizedMet enc Tryd.prog Tryd.f5 (OpenSpec.ofChange Rows.panelCutsSpec) false w args)
      (Rows.panelCutsSpec.post enc Tryd.prog Tryd.f5 false true false false) := by
  refine returnsInHanded_of_change_and (C := Tryd.checked) (X := fun w _ => laidMet Tryd.prog laidHere w) (fun _ _ _ hh h => h.of_heap hh) own33 started (by kernel_rfl) Tryd.func5
    (ChangeSpec.witness_at (enc := enc) (C := Tryd.checked) (os := os) (X := fun w _ => laidMet Tryd.prog laidHere w) false (laidWorld os) #[.slice none 0 0, .agg #[.int .i64 0, .int .i64 0, .int .i64 0, .int .i64 0], .agg #[.int .u8 0, .int .u8 0, .int .u8 0, .int .u8 0]] 8 rfl (by kernel_rfl) (by kernel_rfl) (by kernel_rfl) (by kernel_rfl) (by kernel_rfl) (laid_met os _)) ?_
  intro W base args ds gs before hval0 hW _ _ hL _
  have hval : ∀ (j : Nat) t v, Tryd.f5.params[j]? = some t → args[j]? = some v → Value.okWide Tryd.prog W .any base t v := hval0
  have hW' := hW
  obtain ⟨p, q, hA0, hV, rfl, hfz, hnd⟩ := hW
  have hA : DataW.TrodAll enc Tryd.prog W 0 (fun _ => true) true Tryd.f5.params.toList args.toList ds p := hA0
  rw [Tryd.params5] at hA hval
  obtain ⟨v0, v1, v2, d0, d1, d2, p0, p1, p2, rfl, rfl, rfl, h0, h1, h2⟩ := trodAll_three hA
  obtain ⟨rfl, rfl⟩ := trodVars_none hV
  have k0 := h0
  have lt0 : ∀ x ∈ p0, x.block < W.heap.size := by obtain ⟨m, hm⟩ := k0; exact DataW.trod_lt m _ _ _ hm
  obtain ⟨xs0, r0, u0⟩ := open_rows (hval 0 32 v0 rfl rfl) h0
  have k1 := h1
  have lt1 : ∀ x ∈ p1, x.block < W.heap.size := by obtain ⟨m, hm⟩ := k1; exact DataW.trod_lt m _ _ _ hm
  obtain ⟨c1, hc1, rfl⟩ := open_rect (hval 1 31 v1 rfl rfl) h1
  have k2 := h2
  have lt2 : ∀ x ∈ p2, x.block < W.heap.size := by obtain ⟨m, hm⟩ := k2; exact DataW.trod_lt m _ _ _ hm
  obtain ⟨q0, q1, q2, q3, a0, a1, a2, a3, rfl⟩ := open_bytes4 (hval 2 29 v2 rfl rfl) h2
  clear hA0 hval0
  have hT := tab_of_laid hL
  refine (cuts_calls q0 q1 q2 q3 hT r0 u0 hc1 a0 a1 a2 a3).mono fun e W' ⟨he, hE⟩ => ?_
  subst he
  have bel := hE.below'
  exact ⟨_, rfl, _, _, _, [], _, [], hW', trodAll_mk1 (shut_bool Tryd.underlying4 _), (trodAll_cons_mk (Below.trod laidOut33 (by kernel_rfl) (of_decide_eq_true (by kernel_rfl)) k0 bel lt0) (trodAll_cons_mk (Below.trod laidOut33 (by kernel_rfl) (of_decide_eq_true (by kernel_rfl)) k1 bel lt1) (trodAll_cons_mk (Below.trod laidOut33 (by kernel_rfl) (of_decide_eq_true (by kernel_rfl)) k2 bel lt2) trodAll_mk0))), rfl, bel.frame _, fun h => by cases h⟩

theorem panelCuts_row_holds : Rows.PanelCutsSaid :=
  OpenClaim.holds_of_wide 5 Tryd.f5 rfl rfl rfl rfl rfl rfl rfl ⟨rfl, rfl, rfl, rfl, rfl⟩ rfl rfl rfl rfl rfl (by kernel_rfl) Tryd.func5 (by kernel_rfl)
    (of_decide_eq_true (by kernel_rfl)) (by unfold Func.isWrapper; rw [if_neg (of_decide_eq_false (by kernel_rfl))]; exact ⟨rfl, rfl⟩)
    (fun os started H enc _ => panelCuts_lifted os started H enc)
/-- The tied card. -/
theorem panelCuts_holds : Rows.PanelCutsCardSaid :=
  Claim7.holds_tied_plain_at .later [] [.data] true (true, "25a4f44067088f67ef093edf294a06de5e87a356ffad8e89decfa3de4b34720f") false
    panelCuts_row_holds (fun _ h => by cases h) (by kernel_rfl) (fun _ h => by cases h) panelCuts_row_tie rfl ⟨rfl, rfl⟩ (by kernel_rfl) rfl
    (fun f fn hf hfn => by
      obtain rfl : f = 5 := Option.some.inj ((show Tryd.prog.funcNamed "abugida/abugidalaw33.PanelCuts" = some 5 by kernel_rfl).symm.trans hf) |>.symm
      obtain rfl : fn = Tryd.f5 := (Option.some.inj (Tryd.func5.symm.trans hfn)).symm
      exact ⟨by kernel_rfl, fun j t ht => by
        rw [Tryd.params5] at ht
        have hmem : t ∈ #[32, 31, 29] := Array.mem_of_getElem? ht
        simp at hmem
        rcases hmem with rfl | rfl | rfl
        · exact (show Tryd.prog.wantsStandIn 32 = false by kernel_rfl)
        · exact (show Tryd.prog.wantsStandIn 31 = false by kernel_rfl)
        · exact (show Tryd.prog.wantsStandIn 29 = false by kernel_rfl)⟩)
    (by kernel_rfl)
#print axioms panelCuts_holds
end Go.Proofs.YtmmcadbkmfjcbaaDoor
