/-
  The closed facts of the row of SourceNumbers, together.
  The walk of SourceNumbers, wrapped: in every world that fits it returns true.
-/
import Derived.Test.YtajebdpalnpjdaaGreatDoorM43
import Derived.Test.YtajebdpalnpjdaaGreatDoorM44
import Derived.Test.YtajebdpalnpjdaaGreatDoorM41
import Derived.Test.YtajebdpalnpjdaaGreatDoorM42
namespace Go.Proofs.YtajebdpalnpjdaaGreatDoor

theorem andT {a b : Bool} (h1 : a = true) (h2 : b = true) : (a && b) = true := by rw [h1, h2]; rfl
set_option maxRecDepth 100000 in
theorem closed21 : joinedFacts Tryz.prog 3 Tryz.f3 Rows.sourceNumbersSpec Rows.sourceNumbersRow = true := by
  unfold joinedFacts
  exact (andT (andT (andT (andT (andT (andT (andT (andT (andT (andT (andT (andT (andT (andT (andT (andT (andT (andT (andT (andT (andT (andT (andT (andT (andT (andT (andT (andT (andT (andT (andT jf0 jf1) jf2) jf3) jf4) jf5) jf6) jf7) jf8) jf9) jf10) jf11) jf12) jf13) jf14) jf15) jf16) jf17) jf18) jf19) jf20) jf21) jf22) jf23) jf24) jf25) jf26) jf27) jf28) jf29) jf30) jf31)
end Go.Proofs.YtajebdpalnpjdaaGreatDoor
namespace Go.Proofs.YtajebdpalnpjdaaGreatDoor
open Go.ChangeShapes Go.WideShapes Go.ChangeAt Go.RowKit Go.Deep

set_option maxRecDepth 100000 in
theorem sourceNumbers_lifted (os : Os) (started : os.Started) (H : Type) (enc : TypeId × Value → H) :
    ReturnsInHanded {} Tryz.checked os 3 .any (fun w args => (Rows.sourceNumbersSpec.pre enc Tryz.prog Tryz.f3 Rows.sourceNumbersRow.domain false w args ∧ laidMetH Tryz.prog laidHere w) ∧ sizedMet enc Tryz.prog Tryz.f3 (OpenSpec.ofChange Rows.sourceNumbersSpec) false w args)
      (Rows.sourceNumbersSpec.post enc Tryz.prog Tryz.f3 false true false false) := by
  refine returnsInHanded_of_calls (C := Tryz.checked) own21 started (by kernel_rfl)
    (ChangeSpec.witness_shaped (enc := enc) (C := Tryz.checked) (os := os) (X := fun w _ => laidMetH Tryz.prog laidHere w) false (World.laidAll Tryz.prog os laidHere) #[.int .i64 0, .int .i64 0, .agg #[.int .i64 0, .int .i64 0]] 8 (World.laidAll_os _ _ _)
      (World.shaped_of_ZipB (by kernel_rfl) (by kernel_rfl)) (by kernel_rfl) (by kernel_rfl) (by kernel_rfl)
      (by rw [MakeChecks.laidMetH_plain _ _ _ laidPlain]; exact laidMet_laidAll _ (by kernel_rfl) (by kernel_rfl))) ?_
  intro w tape i _ hsh _ hok hpre _
  obtain ⟨_, _, _, fn', hfn', _, _, _, _, hval0⟩ := hok
  have e : fn' = Tryz.f3 := Option.some.inj (hfn'.symm.trans Tryz.func3)
  subst e
  obtain ⟨⟨⟨ds, gs, before, hw, hc⟩, hx⟩, hz⟩ := hpre
  have hW := DataW.Whole.of_heap (w' := w.forCall tape i) (by rfl) hw
  rw [MakeChecks.laidMetH_plain _ _ _ laidPlain] at hx
  have hL : laidMet Tryz.prog laidHere (w.forCall tape i) := hx.of_heap (by rfl)
  have hsh' : (w.forCall tape i).ShapedOpen Tryz.prog := hsh
  have G := glob_of_laid hL hsh'
  have hg := size_of_shaped hsh'
  obtain ⟨ih, args, iv⟩ := i
  have hval0' : ∀ (j : Nat) t v, Tryz.f3.params[j]? = some t → args[j]? = some v → Value.okWide Tryz.prog (w.forCall tape ⟨ih, args, iv⟩) .any w.heap.size t v := hval0
  have hWt : DataW.Whole enc Tryz.prog Tryz.f3.params.toList Rows.sourceNumbersSpec.vars false (w.forCall tape ⟨ih, args, iv⟩) args.toList ds gs before := hW
  show Calls Tryz.prog 3 args (w.forCall tape ⟨ih, args, iv⟩) _
  suffices key : Calls Tryz.prog 3 args (w.forCall tape ⟨ih, args, iv⟩) fun e W' => ∃ v, e = .returned v ∧ Rows.sourceNumbersSpec.post enc Tryz.prog Tryz.f3 false true false false (w.forCall tape ⟨ih, args, iv⟩) args v W' from
    key.mono fun e W' ⟨v, he, hp⟩ => by
      subst he
      exact ChangeSpec.post_blind hp
  clear hval0 hW hw hc hz hfn' hL hx hsh hsh'
  generalize w.forCall tape ⟨ih, args, iv⟩ = W at *
  have hval := hval0'
  have hW' := hWt
  obtain ⟨p, q, hA0, hV, rfl, hfz, hnd⟩ := hWt
  have hA : DataW.TrodAll enc Tryz.prog W 0 (fun _ => true) true Tryz.f3.params.toList args.toList ds p := hA0
  rw [Tryz.params3] at hA hval
  obtain ⟨v0, v1, v2, d0, d1, d2, p0, p1, p2, rfl, rfl, rfl, h0, h1, h2⟩ := trodAll_three hA
  obtain ⟨rfl, rfl⟩ := trodVars_none hV
  obtain ⟨i0, rfl, rfl, rfl, wi0⟩ := open_int Tryz.underlying3 (hval 0 3 v0 rfl rfl) h0
  obtain ⟨i1, rfl, rfl, rfl, wi1⟩ := open_int Tryz.underlying3 (hval 1 3 v1 rfl rfl) h1
  have k2 := h2
  have lt2 : ∀ x ∈ p2, x.block < W.heap.size := by obtain ⟨m, hm⟩ := k2; exact DataW.trod_lt m _ _ _ hm
  obtain ⟨x, y, hx, hy, rfl⟩ := open_at (hval 2 22 v2 rfl rfl) h2
  clear hA0 hval0' hval
  refine (numbers_calls G hg (sanity_is G hg) (bounds_i64 wi0) (bounds_i64 wi1) hx hy).mono fun e W' ⟨he, hE⟩ => ?_
  subst he
  have bel := hE.below'
  exact ⟨_, rfl, _, _, _, [], _, [], hW', trodAll_mk1 (shut_bool Tryz.underlying4 _), (trodAll_cons_mk (shut_int Tryz.underlying3 wi0) (trodAll_cons_mk (shut_int Tryz.underlying3 wi1) (trodAll_cons_mk (Below.trod laidOut21 (by kernel_rfl) (of_decide_eq_true (by kernel_rfl)) k2 bel lt2) trodAll_mk0))), rfl, bel.frame _, fun h => by cases h⟩
end Go.Proofs.YtajebdpalnpjdaaGreatDoor
