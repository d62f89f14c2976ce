/-
  The closed facts of the row of SourceNumbers, one by one (the second half).
-/
import Derived.Test.YtajebdpalnpjdaaGreatDoorRows
import Derived.Test.YtajebdpalnpjdaaGreatDoorCards
import Derived.JoinedOf
namespace Go.Proofs.YtajebdpalnpjdaaGreatDoor

theorem jf11 : ((Rows.sourceNumbersRow.recurses == Tryz.prog.recurses 3)) = true := by kernel_rfl
theorem jf12 : ((Rows.sourceNumbersRow.named == Tryz.prog.varsNamed 3)) = true := by kernel_rfl
theorem jf13 : ((Rows.sourceNumbersRow.maps == (Tryz.f3.params.toList ++ Rows.sourceNumbersSpec.plain.varTypes Tryz.prog).any (Tryz.prog.mapsRec ·))) = true := by kernel_rfl
theorem jf14 : ((Rows.sourceNumbersRow.ifaces == (Tryz.f3.params.toList ++ Rows.sourceNumbersSpec.plain.varTypes Tryz.prog).any (Tryz.prog.ifacesRec ·))) = true := by kernel_rfl
theorem jf15 : ((Rows.sourceNumbersRow.mapsOut == Tryz.prog.mapsAmong Tryz.f3.resultTypes.toList)) = true := by kernel_rfl
theorem jf16 : ((Rows.sourceNumbersRow.loops == (Tryz.f3.params.toList ++ Rows.sourceNumbersSpec.plain.varTypes Tryz.prog).any (Tryz.prog.loopsFrom ·))) = true := by kernel_rfl
theorem jf17 : ((Rows.sourceNumbersRow.wideKeys == (Tryz.f3.params.toList ++ Rows.sourceNumbersSpec.plain.varTypes Tryz.prog ++ Tryz.f3.resultTypes.toList).any (Tryz.prog.wideKeysFrom ·))) = true := by kernel_rfl
theorem jf18 : (Rows.sourceNumbersSpec.vars.all (Tryz.prog.varReadable ·)) = true := by kernel_rfl
theorem jf19 : (Tryz.f3.resultTypes.all (fun t => Tryz.prog.readableRec t && decide (t < Tryz.prog.types.size))) = true := by kernel_rfl
theorem jf20 : ((Rows.sourceNumbersRow.ifacesOut == Tryz.f3.resultTypes.toList.any (Tryz.prog.ifacesRec ·))) = true := by kernel_rfl
theorem jf21 : ((Rows.sourceNumbersRow.loopsOut == Tryz.f3.resultTypes.toList.any (Tryz.prog.loopsFrom ·))) = true := by kernel_rfl
theorem jf22 : ((Rows.sourceNumbersRow.plainKeys == Tryz.prog.plainKeys)) = true := by kernel_rfl
theorem jf23 : (Rows.sourceNumbersRow.shortTexts.isNone) = true := by kernel_rfl
theorem jf24 : (Tryz.prog.stopsHeard) = true := by kernel_rfl
theorem jf25 : (Tryz.prog.mayEnter) = true := by kernel_rfl
theorem jf26 : ((Rows.sourceNumbersRow.lifted == Tryz.prog.liftsFinal)) = true := by kernel_rfl
theorem jf27 : ((Tryz.prog.make == some Rows.sourceNumbersRow.make)) = true := by kernel_rfl
theorem jf28 : ((Rows.sourceNumbersRow.kinds == (if Rows.sourceNumbersRow.domain.isEmpty then [] else Tryz.f3.params.toList.map fun t => match Tryz.prog.underlying t with | some (.int k) => some k | _ => none))) = true := by kernel_rfl
theorem jf29 : ((Rows.sourceNumbersRow.pinned == Rows.sourceNumbersRow.pinnedBy)) = true := by kernel_rfl
theorem jf30 : ((Rows.sourceNumbersRow.veiled == (Tryz.f3.params.toList ++ Rows.sourceNumbersSpec.plain.varTypes Tryz.prog ++ Tryz.f3.resultTypes.toList).any (Tryz.prog.veiledRec ·))) = true := by kernel_rfl
theorem jf31 : (Rows.sourceNumbersRow.veiledFits Tryz.prog Tryz.f3.params.toList (Tryz.f3.params.toList ++ Rows.sourceNumbersSpec.plain.varTypes Tryz.prog ++ Tryz.f3.resultTypes.toList)) = true := by kernel_rfl
theorem named21 : Tryz.prog.funcNamed "abugida/abugidalaw21.SourceNumbers" = some 3 := by kernel_rfl
theorem main21 : Tryz.pinned.checked.prog.mainIs = some (true, "85ec771adf1e78af0166a1dc0a25724bfadf26304c61c2abf4de0152c0ec15da".toList) := by kernel_rfl
theorem text21 : Rows.sourceNumbersRow.wfByText (OpenSpec.ofChange Rows.sourceNumbersSpec) = true := by kernel_rfl
theorem looks21 : true = Tryz.prog.looks [] := by kernel_rfl
theorem goes21 : false = Rows.sourceNumbersRow.goesBy Tryz.prog := by kernel_rfl
theorem stand3 : Tryz.prog.wantsStandIn 3 = false := by kernel_rfl
theorem stand22 : Tryz.prog.wantsStandIn 22 = false := by kernel_rfl
theorem inits21 : Tryz.prog.inits.idxOf? 3 = none := by kernel_rfl
end Go.Proofs.YtajebdpalnpjdaaGreatDoor
