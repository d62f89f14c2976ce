/-
  'SourceNumbers' returns true for every input that can be read, whatever the version, the advance and the point are, and leaves the input as it was; its condition: the library's listed variables hold what the program's text gives them (the card ties them to that text).
-/
import Derived.Test.YtajebdpalnpjdaaGreatDoorM45
import Derived.Test.YtajebdpalnpjdaaGreatDoorTie
import Derived.Test.YtajebdpalnpjdaaGreatDoorCards
import Derived.SevenTiedAt
namespace Go.Proofs.YtajebdpalnpjdaaGreatDoor
open Go.ChangeShapes Go.WideShapes Go.ChangeAt Go.RowKit Go.Deep

theorem sourceNumbers_row_holds : Rows.SourceNumbersSaid :=
  OpenClaim.holds_of_wide 3 Tryz.f3 rfl rfl rfl rfl rfl rfl rfl ⟨rfl, rfl, rfl, rfl, rfl⟩ rfl rfl rfl rfl rfl named21 Tryz.func3 closed21
    (of_decide_eq_true (by kernel_rfl)) (by unfold Func.isWrapper; rw [if_neg (of_decide_eq_false (by kernel_rfl))]; exact ⟨rfl, rfl⟩)
    (fun os started H enc _ => sourceNumbers_lifted os started H enc)
/-- The tied card. -/
theorem sourceNumbers_holds : Rows.SourceNumbersCardSaid :=
  Claim7.holds_tied_plain_at .later [] [.data, .data, .data, .data, .sentinel, .sentinel, .listed, .data, .pinned] true (true, "85ec771adf1e78af0166a1dc0a25724bfadf26304c61c2abf4de0152c0ec15da") true
    sourceNumbers_row_holds (fun _ h => by cases h) text21 (fun _ h => by cases h) sourceNumbers_row_tie rfl ⟨rfl, rfl⟩ main21 rfl
    (fun f fn hf hfn => by
      obtain rfl : f = 3 := Option.some.inj (named21.symm.trans hf) |>.symm
      obtain rfl : fn = Tryz.f3 := (Option.some.inj (Tryz.func3.symm.trans hfn)).symm
      exact ⟨looks21, fun j t ht => by
        rw [Tryz.params3] at ht
        have hmem : t ∈ #[3, 3, 22] := Array.mem_of_getElem? ht
        simp at hmem
        rcases hmem with rfl | rfl
        · exact stand3
        · exact stand22⟩)
    goes21
#print axioms sourceNumbers_holds
end Go.Proofs.YtajebdpalnpjdaaGreatDoor
