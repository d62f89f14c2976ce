/-
  'PanelCovers' returns true for every input that can be read, whatever the case is, and leaves the input as it was.
-/
import Derived.Test.YtmmcadbkmfjcbaaDoorG2
import Derived.Test.YtmmcadbkmfjcbaaDoorK8
import Derived.Test.YtmmcadbkmfjcbaaDoorTie
import Derived.Test.YtmmcadbkmfjcbaaDoorCards
import Derived.SevenTiedAt
namespace Go.Proofs.YtmmcadbkmfjcbaaDoor
open Go.ChangeShapes Go.WideShapes Go.ChangeAt Go.RowKit Go.Joins Go.Deep

set_option maxRecDepth 100000 in
theorem panelCovers_lifted (os : Os) (started : os.Started) (H : Type) (enc : TypeId × Value → H) :
    ReturnsInHanded {} Tryd.checked os 8 .any (fun w args => (Rows.panelCoversSpec.pre enc Tryd.prog Tryd.f8 Rows.panelCoversRow.domain false w args ∧ laidMet Tryd.prog laidHere w) ∧ sizedMet enc Tryd.prog Tryd.f8 (OpenSpec.ofChange Rows.panelCoversSpec) false w args)
      (Rows.panelCoversSpec.post enc Tryd.prog Tryd.f8 false true false false) := by
  refine returnsInHanded_of_change_and (C := Tryd.checked) (X := fun w _ => laidMet Tryd.prog laidHere w) (fun _ _ _ hh h => h.of_heap hh) own33 started (by kernel_rfl) Tryd.func8
    (ChangeSpec.witness_at (enc := enc) (C := Tryd.checked) (os := os) (X := fun w _ => laidMet Tryd.prog laidHere w) false (laidWorld os) #[.agg #[.int .u8 0, .int .u8 0, .slice none 0 0, .slice none 0 0, .int .u8 0]] 8 rfl (by kernel_rfl) (by kernel_rfl) (by kernel_rfl) (by kernel_rfl) (by kernel_rfl) (laid_met os _)) ?_
  intro W base args ds gs before hval0 hW _ _ hL _
  have hval : ∀ (j : Nat) t v, Tryd.f8.params[j]? = some t → args[j]? = some v → Value.okWide Tryd.prog W .any base t v := hval0
  have hW' := hW
  obtain ⟨p, q, hA0, hV, rfl, hfz, hnd⟩ := hW
  have hA : DataW.TrodAll enc Tryd.prog W 0 (fun _ => true) true Tryd.f8.params.toList args.toList ds p := hA0
  rw [Tryd.params8] at hA hval
  obtain ⟨v0, d0, rfl, rfl, h0⟩ := trodAll_one hA
  obtain ⟨rfl, rfl⟩ := trodVars_none hV
  have k0 := h0
  have lt0 : ∀ x ∈ p, x.block < W.heap.size := by obtain ⟨m, hm⟩ := k0; exact DataW.trod_lt m _ _ _ hm
  obtain ⟨ca, cb, cm, vv1, vv2, xs, ys, a0, a1, a2, rfl, r1, u1, r2, u2⟩ := open_case (hval 0 53 v0 rfl rfl) h0
  clear hA0 hval0
  have hT := tab_of_laid hL
  refine (covers_calls ca cb cm hT a0 a1 a2 r1 u1 r2 u2).mono fun e W' ⟨he, hE⟩ => ?_
  subst he
  have bel := hE.below'
  exact ⟨_, rfl, _, _, _, [], _, [], hW', trodAll_mk1 (shut_bool Tryd.underlying4 _), (trodAll_cons_mk (Below.trod laidOut33 (by kernel_rfl) (of_decide_eq_true (by kernel_rfl)) k0 bel lt0) trodAll_mk0), rfl, bel.frame _, fun h => by cases h⟩

theorem panelCovers_row_holds : Rows.PanelCoversSaid :=
  OpenClaim.holds_of_wide 8 Tryd.f8 rfl rfl rfl rfl rfl rfl rfl ⟨rfl, rfl, rfl, rfl, rfl⟩ rfl rfl rfl rfl rfl (by kernel_rfl) Tryd.func8 (by kernel_rfl)
    (of_decide_eq_true (by kernel_rfl)) (by unfold Func.isWrapper; rw [if_neg (of_decide_eq_false (by kernel_rfl))]; exact ⟨rfl, rfl⟩)
    (fun os started H enc _ => panelCovers_lifted os started H enc)
/-- The tied card. -/
theorem panelCovers_holds : Rows.PanelCoversCardSaid :=
  Claim7.holds_tied_plain_at .later [] [.data] true (true, "25a4f44067088f67ef093edf294a06de5e87a356ffad8e89decfa3de4b34720f") false
    panelCovers_row_holds (fun _ h => by cases h) (by kernel_rfl) (fun _ h => by cases h) panelCovers_row_tie rfl ⟨rfl, rfl⟩ (by kernel_rfl) rfl
    (fun f fn hf hfn => by
      obtain rfl : f = 8 := Option.some.inj ((show Tryd.prog.funcNamed "abugida/abugidalaw33.PanelCovers" = some 8 by kernel_rfl).symm.trans hf) |>.symm
      obtain rfl : fn = Tryd.f8 := (Option.some.inj (Tryd.func8.symm.trans hfn)).symm
      exact ⟨by kernel_rfl, fun j t ht => by
        rw [Tryd.params8] at ht
        have hmem : t ∈ #[53] := Array.mem_of_getElem? ht
        simp at hmem
        subst hmem
        exact (show Tryd.prog.wantsStandIn 53 = false by kernel_rfl)⟩)
    (by kernel_rfl)
#print axioms panelCovers_holds
end Go.Proofs.YtmmcadbkmfjcbaaDoor
