/-
  'PanelMore' returns true for every input that can be read, whatever the case and the numbers are, and leaves the input as it was.
-/
import Derived.Test.YtmmcadbkmfjcbaaDoorG2
import Derived.Test.YtmmcadbkmfjcbaaDoorK9
import Derived.Test.YtmmcadbkmfjcbaaDoorTie
import Derived.Test.YtmmcadbkmfjcbaaDoorCards
import Derived.SevenTiedAt
namespace Go.Proofs.YtmmcadbkmfjcbaaDoor
open Go.ChangeShapes Go.WideShapes Go.ChangeAt Go.RowKit Go.Joins Go.Deep

set_option maxRecDepth 100000 in
theorem panelMore_lifted (os : Os) (started : os.Started) (H : Type) (enc : TypeId × Value → H) :
    ReturnsInHanded {} Tryd.checked os 9 .any (fun w args => (Rows.panelMoreSpec.pre enc Tryd.prog Tryd.f9 Rows.panelMoreRow.domain false w args ∧ laidMet Tryd.prog laidHere w) ∧ sizedMet enc Tryd.prog Tryd.f9 (OpenSpec.ofChange Rows.panelMoreSpec) false w args)
      (Rows.panelMoreSpec.post enc Tryd.prog Tryd.f9 false true false false) := by
  refine returnsInHanded_of_change_and (C := Tryd.checked) (X := fun w _ => laidMet Tryd.prog laidHere w) (fun _ _ _ hh h => h.of_heap hh) own33 started (by kernel_rfl) Tryd.func9
    (ChangeSpec.witness_at (enc := enc) (C := Tryd.checked) (os := os) (X := fun w _ => laidMet Tryd.prog laidHere w) false (laidWorld os) #[.agg #[.int .u8 0, .int .u8 0, .slice none 0 0, .slice none 0 0, .int .u8 0], .agg #[.int .u8 0, .int .u8 0]] 8 rfl (by kernel_rfl) (by kernel_rfl) (by kernel_rfl) (by kernel_rfl) (by kernel_rfl) (laid_met os _)) ?_
  intro W base args ds gs before hval0 hW _ _ hL _
  have hval : ∀ (j : Nat) t v, Tryd.f9.params[j]? = some t → args[j]? = some v → Value.okWide Tryd.prog W .any base t v := hval0
  have hW' := hW
  obtain ⟨p, q, hA0, hV, rfl, hfz, hnd⟩ := hW
  have hA : DataW.TrodAll enc Tryd.prog W 0 (fun _ => true) true Tryd.f9.params.toList args.toList ds p := hA0
  rw [Tryd.params9] at hA hval
  obtain ⟨v0, v1, d0, d1, p0, p1, rfl, rfl, rfl, h0, h1⟩ := trodAll_two hA
  obtain ⟨rfl, rfl⟩ := trodVars_none hV
  have k0 := h0
  have lt0 : ∀ x ∈ p0, x.block < W.heap.size := by obtain ⟨m, hm⟩ := k0; exact DataW.trod_lt m _ _ _ hm
  obtain ⟨ca, cb, cm, vv1, vv2, xs, ys, a0, a1, a2, rfl, r1, u1, r2, u2⟩ := open_case (hval 0 53 v0 rfl rfl) h0
  have k1 := h1
  have lt1 : ∀ x ∈ p1, x.block < W.heap.size := by obtain ⟨m, hm⟩ := k1; exact DataW.trod_lt m _ _ _ hm
  obtain ⟨q0, q1, b0, b1, rfl⟩ := open_pair (hval 1 22 v1 rfl rfl) h1
  clear hA0 hval0
  have hT := tab_of_laid hL
  refine (more_calls ca cb cm q0 q1 hT a0 a1 a2 r1 u1 r2 u2 b0 b1).mono fun e W' ⟨he, hE⟩ => ?_
  subst he
  have bel := hE.below'
  exact ⟨_, rfl, _, _, _, [], _, [], hW', trodAll_mk1 (shut_bool Tryd.underlying4 _), (trodAll_cons_mk (Below.trod laidOut33 (by kernel_rfl) (of_decide_eq_true (by kernel_rfl)) k0 bel lt0) (trodAll_cons_mk (Below.trod laidOut33 (by kernel_rfl) (of_decide_eq_true (by kernel_rfl)) k1 bel lt1) trodAll_mk0)), rfl, bel.frame _, fun h => by cases h⟩

theorem panelMore_row_holds : Rows.PanelMoreSaid :=
  OpenClaim.holds_of_wide 9 Tryd.f9 rfl rfl rfl rfl rfl rfl rfl ⟨rfl, rfl, rfl, rfl, rfl⟩ rfl rfl rfl rfl rfl (by kernel_rfl) Tryd.func9 (by kernel_rfl)
    (of_decide_eq_true (by kernel_rfl)) (by unfold Func.isWrapper; rw [if_neg (of_decide_eq_false (by kernel_rfl))]; exact ⟨rfl, rfl⟩)
    (fun os started H enc _ => panelMore_lifted os started H enc)
/-- The tied card. -/
theorem panelMore_holds : Rows.PanelMoreCardSaid :=
  Claim7.holds_tied_plain_at .later [] [.data] true (true, "25a4f44067088f67ef093edf294a06de5e87a356ffad8e89decfa3de4b34720f") false
    panelMore_row_holds (fun _ h => by cases h) (by kernel_rfl) (fun _ h => by cases h) panelMore_row_tie rfl ⟨rfl, rfl⟩ (by kernel_rfl) rfl
    (fun f fn hf hfn => by
      obtain rfl : f = 9 := Option.some.inj ((show Tryd.prog.funcNamed "abugida/abugidalaw33.PanelMore" = some 9 by kernel_rfl).symm.trans hf) |>.symm
      obtain rfl : fn = Tryd.f9 := (Option.some.inj (Tryd.func9.symm.trans hfn)).symm
      exact ⟨by kernel_rfl, fun j t ht => by
        rw [Tryd.params9] at ht
        have hmem : t ∈ #[53, 22] := Array.mem_of_getElem? ht
        simp at hmem
        rcases hmem with rfl | rfl
        · exact (show Tryd.prog.wantsStandIn 53 = false by kernel_rfl)
        · exact (show Tryd.prog.wantsStandIn 22 = false by kernel_rfl)⟩)
    (by kernel_rfl)
#print axioms panelMore_holds
end Go.Proofs.YtmmcadbkmfjcbaaDoor
