/-
  'MemoryUse' returns true for every budget, all acts and whatever else it takes, and writes nothing that was there.
-/
import Derived.Test.YtkloaadaicklfaaO0
import Derived.Test.YtkloaadaicklfaaU1
namespace Go.Proofs.Ytkloaadaicklfaa
open Go.ChangeShapes Go.WideShapes Go.ChangeAt Go.RowKit Go.Joins Go.Deep

theorem own8 : ownKnob Try.prog.godebug = none := by kernel_rfl
theorem laidOut8 : laidOutB Try.prog = true := by kernel_rfl

set_option maxRecDepth 100000 in
theorem use_lifted (os : Os) (started : os.Started) (H : Type) (enc : TypeId × Value → H) :
    ReturnsInHanded {} Try.checked os 8 .any (Rows.memoryUseSpec.pre6 enc Try.prog Try.f8 Rows.memoryUseRow.domain false) (Rows.memoryUseSpec.post enc Try.prog Try.f8 false true false false) := by
  refine returnsInHanded_of_change (C := Try.checked) own8 started (by kernel_rfl) Try.func8
    (ChangeSpec.witness6 (enc := enc) (C := Try.checked) false ⟨#[], #[.int .u8 0, .slice none 0 0, .int .u8 0], []⟩ 8 (by kernel_rfl) (by kernel_rfl) (by kernel_rfl) (by kernel_rfl)) ?_
  intro W base args ds gs before hval0 hW hcnd _
  have hval : ∀ (j : Nat) t v, Try.f8.params[j]? = some t → args[j]? = some v → Value.okWide Try.prog W .any base t v := hval0
  have hW' := hW
  obtain ⟨p, q, hA0, hV, rfl, hfz, hnd⟩ := hW
  have hA : DataW.TrodAll enc Try.prog W 0 (fun _ => true) true Try.f8.params.toList args.toList ds p := hA0
  rw [Try.params8] at hA hval
  obtain ⟨v0, v1, v2, d0, d1, d2, p0, p1, p2, rfl, rfl, rfl, h0, h1, h2⟩ := trodAll_three hA
  obtain ⟨rfl, rfl⟩ := trodVars_none hV
  obtain ⟨a, rfl, rfl, rfl, wa⟩ := open_int Try.underlying5 (hval 0 5 v0 rfl rfl) h0
  have wb := bounds_u8 wa
  have k1 := h1
  have lt1 : ∀ x ∈ p1, x.block < W.heap.size := by obtain ⟨m, hm⟩ := k1; exact DataW.trod_lt m _ _ _ hm
  obtain ⟨x, len, cap, rfl, hx, hlen⟩ := open_acts (hval 1 22 v1 rfl rfl) h1
  obtain ⟨b, rfl, rfl, rfl, w3⟩ := open_int Try.underlying5 (hval 2 5 v2 rfl rfl) h2
  have wb3 := bounds_u8 w3
  clear hA0 hval0
  refine (memuse_calls a wb.1 wb.2 b wb3.1 wb3.2 W x len cap hx hlen).mono fun e W' ⟨he, hE⟩ => ?_
  subst he
  have bel := hE.below'
  exact ⟨_, rfl, _, _, _, [], _, [], hW', trodAll_mk1 (shut_bool Try.underlying4 _), (trodAll_cons_mk (shut_int Try.underlying5 wa) (trodAll_cons_mk (Below.trod laidOut8 (by kernel_rfl) (of_decide_eq_true (by kernel_rfl)) k1 bel lt1) (trodAll_cons_mk (shut_int Try.underlying5 w3) trodAll_mk0))), rfl, bel.frame _, fun h => by cases h⟩

theorem use_holds : Rows.MemoryUseSaid :=
  OpenClaim.holds_of_wide 8 Try.f8 rfl rfl rfl rfl rfl rfl rfl ⟨rfl, rfl, rfl, rfl, rfl⟩ rfl rfl rfl rfl rfl (by kernel_rfl) Try.func8 (by kernel_rfl)
    (of_decide_eq_true (by kernel_rfl)) (by unfold Func.isWrapper; rw [if_neg (of_decide_eq_false (by kernel_rfl))]; exact ⟨rfl, rfl⟩)
    (fun os started H enc _ => use_lifted os started H enc)
#print axioms use_holds
end Go.Proofs.Ytkloaadaicklfaa
