/-
  'MemoryErrors' returns true for every budget, all acts and whatever else it takes, and writes nothing that was there.
-/
import Derived.Test.YtkloaadaicklfaaO0
import Derived.Test.YtkloaadaicklfaaE0
namespace Go.Proofs.Ytkloaadaicklfaa
open Go.ChangeShapes Go.WideShapes Go.ChangeAt Go.RowKit Go.Joins Go.Deep

theorem own7 : ownKnob Try.prog.godebug = none := by kernel_rfl
theorem laidOut7 : laidOutB Try.prog = true := by kernel_rfl
theorem cells32' : Try.prog.cellsOf 32 = 3 := by kernel_rfl
theorem cells59 : Try.prog.cellsOf 59 = 4 := by kernel_rfl
theorem open_last {H : Type} {enc : TypeId × Value → H} {W : World} {base b0 : Nat} {spare : Nat → Bool} {held : Bool} {v : Value} {d : DataW H} {p : List MemPlace} (hv : Value.okWide Try.prog W .any b0 59 v) (h : DataW.Trod enc Try.prog W base spare held 59 v d p) : ∃ a b c s, v = .agg #[.int .i64 a, .int .i64 b, .int .i64 c, .int .i64 s] := by
  obtain ⟨cs, rfl, hsz⟩ := okWide_struct Try.underlying59 hv
  obtain ⟨c0, c1, c2, c3, rfl⟩ := array4 (hsz.trans cells59)
  obtain ⟨fuel, hf⟩ := h
  obtain ⟨y0, y1, n, _, _, h0, h1⟩ := trod_struct2 Try.underlying59 hf
  simp [Value.cells, cells3', cells32'] at h0 h1
  obtain ⟨a0, e0, _, _⟩ := DataW.trod_int Try.underlying3 h1
  obtain ⟨z0, z1, z2, m, _, _, k0, k1, k2⟩ := trod_struct3 Try.underlying32 h0
  simp [cells3'] at k0 k1 k2
  obtain ⟨a1, e1, _, _⟩ := DataW.trod_int Try.underlying3 k0
  obtain ⟨a2, e2, _, _⟩ := DataW.trod_int Try.underlying3 k1
  obtain ⟨a3, e3, _, _⟩ := DataW.trod_int Try.underlying3 k2
  simp at e0 e1 e2 e3
  subst e0 e1 e2 e3
  exact ⟨a1, a2, a3, a0, rfl⟩

set_option maxRecDepth 100000 in
theorem errors_lifted (os : Os) (started : os.Started) (H : Type) (enc : TypeId × Value → H) :
    ReturnsInHanded {} Try.checked os 7 .any (Rows.memoryErrorsSpec.pre6 enc Try.prog Try.f7 Rows.memoryErrorsRow.domain false) (Rows.memoryErrorsSpec.post enc Try.prog Try.f7 false true false false) := by
  refine returnsInHanded_of_change (C := Try.checked) own7 started (by kernel_rfl) Try.func7
    (ChangeSpec.witness6 (enc := enc) (C := Try.checked) false ⟨#[], #[.int .u8 0, .slice none 0 0, .agg #[.int .i64 0, .int .i64 0, .int .i64 0, .int .i64 0]], []⟩ 8 (by kernel_rfl) (by kernel_rfl) (by kernel_rfl) (by kernel_rfl)) ?_
  intro W base args ds gs before hval0 hW hcnd _
  have hval : ∀ (j : Nat) t v, Try.f7.params[j]? = some t → args[j]? = some v → Value.okWide Try.prog W .any base t v := hval0
  have hW' := hW
  obtain ⟨p, q, hA0, hV, rfl, hfz, hnd⟩ := hW
  have hA : DataW.TrodAll enc Try.prog W 0 (fun _ => true) true Try.f7.params.toList args.toList ds p := hA0
  rw [Try.params7] at hA hval
  obtain ⟨v0, v1, v2, d0, d1, d2, p0, p1, p2, rfl, rfl, rfl, h0, h1, h2⟩ := trodAll_three hA
  obtain ⟨rfl, rfl⟩ := trodVars_none hV
  obtain ⟨a, rfl, rfl, rfl, wa⟩ := open_int Try.underlying5 (hval 0 5 v0 rfl rfl) h0
  have wb := bounds_u8 wa
  have k1 := h1
  have lt1 : ∀ x ∈ p1, x.block < W.heap.size := by obtain ⟨m, hm⟩ := k1; exact DataW.trod_lt m _ _ _ hm
  obtain ⟨x, len, cap, rfl, hx, hlen⟩ := open_acts (hval 1 22 v1 rfl rfl) h1
  have k2 := h2
  have lt2 : ∀ x ∈ p2, x.block < W.heap.size := by obtain ⟨m, hm⟩ := k2; exact DataW.trod_lt m _ _ _ hm
  obtain ⟨b1, b2, b3, b4, rfl⟩ := open_last (hval 2 59 v2 rfl rfl) h2
  clear hA0 hval0
  refine (errors_calls a wb.1 wb.2 b1 b2 b3 b4 W x len cap hx hlen).mono fun e W' ⟨he, hE⟩ => ?_
  subst he
  have bel := hE.below'
  exact ⟨_, rfl, _, _, _, [], _, [], hW', trodAll_mk1 (shut_bool Try.underlying4 _), (trodAll_cons_mk (shut_int Try.underlying5 wa) (trodAll_cons_mk (Below.trod laidOut7 (by kernel_rfl) (of_decide_eq_true (by kernel_rfl)) k1 bel lt1) (trodAll_cons_mk (Below.trod laidOut7 (by kernel_rfl) (of_decide_eq_true (by kernel_rfl)) k2 bel lt2) trodAll_mk0))), rfl, bel.frame _, fun h => by cases h⟩

theorem errors_holds : Rows.MemoryErrorsSaid :=
  OpenClaim.holds_of_wide 7 Try.f7 rfl rfl rfl rfl rfl rfl rfl ⟨rfl, rfl, rfl, rfl, rfl⟩ rfl rfl rfl rfl rfl (by kernel_rfl) Try.func7 (by kernel_rfl)
    (of_decide_eq_true (by kernel_rfl)) (by unfold Func.isWrapper; rw [if_neg (of_decide_eq_false (by kernel_rfl))]; exact ⟨rfl, rfl⟩)
    (fun os started H enc _ => errors_lifted os started H enc)
#print axioms errors_holds
end Go.Proofs.Ytkloaadaicklfaa
