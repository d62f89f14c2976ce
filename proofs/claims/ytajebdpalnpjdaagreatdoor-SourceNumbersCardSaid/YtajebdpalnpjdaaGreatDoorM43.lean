/-
  The closed facts of the row of SourceNumbers, one by one.
-/
import Derived.Test.YtajebdpalnpjdaaGreatDoorRows
import Derived.Test.YtajebdpalnpjdaaGreatDoorCards
import Derived.JoinedOf
namespace Go.Proofs.YtajebdpalnpjdaaGreatDoor

theorem jf0 : (Rows.sourceNumbersRow.wf (OpenSpec.ofChange Rows.sourceNumbersSpec)) = true := by kernel_rfl
theorem jf1 : (laidOutB Tryz.prog) = true := by kernel_rfl
theorem jf2 : (mapsRowed Tryz.prog) = true := by kernel_rfl
theorem jf3 : (Tryz.f3.params.all (Tryz.prog.readableRec ·)) = true := by kernel_rfl
theorem jf4 : (namedTie Tryz.prog Rows.sourceNumbersRow.named Rows.sourceNumbersSpec.vars) = true := by kernel_rfl
theorem jf5 : ((Rows.sourceNumbersRow.stops == [])) = true := by kernel_rfl
theorem jf6 : ((Tryz.prog.stops == [])) = true := by kernel_rfl
theorem jf7 : ((Rows.sourceNumbersRow.knobs == [])) = true := by kernel_rfl
theorem jf8 : ((Tryz.prog.stopKnobs == [])) = true := by kernel_rfl
theorem jf9 : ((Rows.sourceNumbersRow.inPlace == Tryz.prog.inPlace 3)) = true := by kernel_rfl
theorem jf10 : ((Rows.sourceNumbersRow.unfollowed == Tryz.prog.unfollowed 3)) = true := by kernel_rfl
end Go.Proofs.YtajebdpalnpjdaaGreatDoor
