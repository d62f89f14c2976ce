/-
  NARROWER THAN 'FOR EVERY INPUT', by the rows' own cells (each row's printed sentence says how): PanelWrites: laid · PanelPlans: laid · PanelCuts: laid · PanelBrings: laid · PanelFails: laid · PanelCovers: laid · PanelMore: laid · PanelNone: laid.
  DERIVED. THE GIVEN ROWS OF THIS SEAT. 8 by the template 'for every input the law returns true; each argument reads behind the call as it read before'; 0 by the template 'total and deterministic' (their statements: YtmmcadbkmfjcbaaDoorTotals.lean).
  GIVEN WITH THE SEED: the statements are not yours to turn. If you find one false, say at which input.
  Laid BY PROGRAM, IN A SANDBOX (cutbox-rows.mjs): the forced cells as the released guide's own fill.sh prints them over the translation de447cd6cdac753e… (all of the seat's roots in one cut). By AI agents, Wed Nov 11 2026. No macro, syntax, notation, axiom, sorry.
-/
import Derived.Test.YtmmcadbkmfjcbaaDoorChecked
import GoSem.Claim
import GoSem.ClaimJoined
import GoSem.ClaimMapViews
import Derived.JoinedTies
import Derived.KernelRfl
namespace Go.Proofs.YtmmcadbkmfjcbaaDoor
/- THE CELL 'sum', in the pinned program and in every row, IS THE sha256 OF THE DUMP (.gsa) THAT YtmmcadbkmfjcbaaDoorProg.lean LOADS. Nothing in Lean hashes anything: it is a label: what it is worth is what the hold of that sum in a sandbox is worth. -/
noncomputable def Tryd.pinned : Pinned := { name := "ytmmcadbkmfjcbaadoor", sum := "de447cd6cdac753e8f5061603dae8dc612df153dd4e0e4801926e7700bf3d83e", checked := Tryd.checked }
namespace Rows
def none {H : Type} : Left H := { results := [], args := [] }

/- WHAT THE LISTED PACKAGE-LEVEL VARIABLES READ AS WHEN THE CALL BEGINS. Each datum BY PROGRAM (the guide's laid-datum.mjs) off the statement by which the dump's own 'gosem.cut.vars' lays the variable. In a bare row this is a premise. The card (YtmmcadbkmfjcbaaDoorCards.lean) ties it to the program's text. -/
def laid_math_bits_deBruijn64tab {H : Type} : DataW H := .agg [.lit (.int .u8 0), .lit (.int .u8 1), .lit (.int .u8 56), .lit (.int .u8 2), .lit (.int .u8 57), .lit (.int .u8 49), .lit (.int .u8 28), .lit (.int .u8 3), .lit (.int .u8 61), .lit (.int .u8 58), .lit (.int .u8 42), .lit (.int .u8 50), .lit (.int .u8 38), .lit (.int .u8 29), .lit (.int .u8 17), .lit (.int .u8 4), .lit (.int .u8 62), .lit (.int .u8 47), .lit (.int .u8 59), .lit (.int .u8 36), .lit (.int .u8 45), .lit (.int .u8 43), .lit (.int .u8 51), .lit (.int .u8 22), .lit (.int .u8 53), .lit (.int .u8 39), .lit (.int .u8 33), .lit (.int .u8 30), .lit (.int .u8 24), .lit (.int .u8 18), .lit (.int .u8 12), .lit (.int .u8 5), .lit (.int .u8 63), .lit (.int .u8 55), .lit (.int .u8 48), .lit (.int .u8 27), .lit (.int .u8 60), .lit (.int .u8 41), .lit (.int .u8 37), .lit (.int .u8 16), .lit (.int .u8 46), .lit (.int .u8 35), .lit (.int .u8 44), .lit (.int .u8 21), .lit (.int .u8 52), .lit (.int .u8 32), .lit (.int .u8 23), .lit (.int .u8 11), .lit (.int .u8 54), .lit (.int .u8 26), .lit (.int .u8 40), .lit (.int .u8 15), .lit (.int .u8 34), .lit (.int .u8 20), .lit (.int .u8 31), .lit (.int .u8 10), .lit (.int .u8 25), .lit (.int .u8 14), .lit (.int .u8 19), .lit (.int .u8 9), .lit (.int .u8 13), .lit (.int .u8 8), .lit (.int .u8 7), .lit (.int .u8 6)]

/-- 'abugidalaw33.PanelWrites': WHATEVER THE INPUT: true; the input reads as it did. -/
def panelWritesSpec : ChangeSpec := { name := "panelWrites", fn := fun _ => fun
  | [d1, d2] => { results := [.lit (.bool true)], args := [d1, d2] }
  | _ => none }
def panelWritesRow : OpenClaim := { program := "ytmmcadbkmfjcbaadoor", sum := "de447cd6cdac753e8f5061603dae8dc612df153dd4e0e4801926e7700bf3d83e", func := "abugida/abugidalaw33.PanelWrites", spec := "panelWrites", inPlace := ["slices.overlaps[abugida/api.Rect]"], unfollowed := true, recurses := true, named := ["math/bits.deBruijn64tab"], apart := false, laid := [("math/bits.deBruijn64tab", laid_math_bits_deBruijn64tab)] }
def PanelWritesSaid : Prop := panelWritesRow.holds Tryd.pinned (OpenSpec.ofChange panelWritesSpec)

/-- ITS FALSE NEIGHBOUR: 'it returns false'. Refute it at one input. -/
def panelWritesWrong : ChangeSpec := { name := "panelWrites", fn := fun _ => fun
  | [d1, d2] => { results := [.lit (.bool false)], args := [d1, d2] }
  | _ => none }
def PanelWritesWrongFalsely : Prop := panelWritesRow.holds Tryd.pinned (OpenSpec.ofChange panelWritesWrong)

/-- 'abugidalaw33.PanelPlans': WHATEVER THE INPUT: true; the input reads as it did. -/
def panelPlansSpec : ChangeSpec := { name := "panelPlans", fn := fun _ => fun
  | [d1, d2, d3] => { results := [.lit (.bool true)], args := [d1, d2, d3] }
  | _ => none }
def panelPlansRow : OpenClaim := { program := "ytmmcadbkmfjcbaadoor", sum := "de447cd6cdac753e8f5061603dae8dc612df153dd4e0e4801926e7700bf3d83e", func := "abugida/abugidalaw33.PanelPlans", spec := "panelPlans", inPlace := ["slices.overlaps[abugida/api.Rect]"], unfollowed := true, recurses := true, named := ["math/bits.deBruijn64tab"], apart := false, laid := [("math/bits.deBruijn64tab", laid_math_bits_deBruijn64tab)] }
def PanelPlansSaid : Prop := panelPlansRow.holds Tryd.pinned (OpenSpec.ofChange panelPlansSpec)

/-- ITS FALSE NEIGHBOUR: 'it returns false'. Refute it at one input. -/
def panelPlansWrong : ChangeSpec := { name := "panelPlans", fn := fun _ => fun
  | [d1, d2, d3] => { results := [.lit (.bool false)], args := [d1, d2, d3] }
  | _ => none }
def PanelPlansWrongFalsely : Prop := panelPlansRow.holds Tryd.pinned (OpenSpec.ofChange panelPlansWrong)

/-- 'abugidalaw33.PanelCuts': WHATEVER THE INPUT: true; the input reads as it did. -/
def panelCutsSpec : ChangeSpec := { name := "panelCuts", fn := fun _ => fun
  | [d1, d2, d3] => { results := [.lit (.bool true)], args := [d1, d2, d3] }
  | _ => none }
def panelCutsRow : OpenClaim := { program := "ytmmcadbkmfjcbaadoor", sum := "de447cd6cdac753e8f5061603dae8dc612df153dd4e0e4801926e7700bf3d83e", func := "abugida/abugidalaw33.PanelCuts", spec := "panelCuts", inPlace := ["slices.overlaps[abugida/api.Rect]"], unfollowed := true, recurses := true, named := ["math/bits.deBruijn64tab"], apart := false, laid := [("math/bits.deBruijn64tab", laid_math_bits_deBruijn64tab)] }
def PanelCutsSaid : Prop := panelCutsRow.holds Tryd.pinned (OpenSpec.ofChange panelCutsSpec)

/-- ITS FALSE NEIGHBOUR: 'it returns false'. Refute it at one input. -/
def panelCutsWrong : ChangeSpec := { name := "panelCuts", fn := fun _ => fun
  | [d1, d2, d3] => { results := [.lit (.bool false)], args := [d1, d2, d3] }
  | _ => none }
def PanelCutsWrongFalsely : Prop := panelCutsRow.holds Tryd.pinned (OpenSpec.ofChange panelCutsWrong)

/-- 'abugidalaw33.PanelBrings': WHATEVER THE INPUT: true; the input reads as it did. -/
def panelBringsSpec : ChangeSpec := { name := "panelBrings", fn := fun _ => fun
  | [d] => { results := [.lit (.bool true)], args := [d] }
  | _ => none }
def panelBringsRow : OpenClaim := { program := "ytmmcadbkmfjcbaadoor", sum := "de447cd6cdac753e8f5061603dae8dc612df153dd4e0e4801926e7700bf3d83e", func := "abugida/abugidalaw33.PanelBrings", spec := "panelBrings", inPlace := ["slices.overlaps[abugida/api.Rect]"], unfollowed := true, recurses := true, named := ["math/bits.deBruijn64tab"], apart := false, laid := [("math/bits.deBruijn64tab", laid_math_bits_deBruijn64tab)] }
def PanelBringsSaid : Prop := panelBringsRow.holds Tryd.pinned (OpenSpec.ofChange panelBringsSpec)

/-- ITS FALSE NEIGHBOUR: 'it returns false'. Refute it at one input. -/
def panelBringsWrong : ChangeSpec := { name := "panelBrings", fn := fun _ => fun
  | [d] => { results := [.lit (.bool false)], args := [d] }
  | _ => none }
def PanelBringsWrongFalsely : Prop := panelBringsRow.holds Tryd.pinned (OpenSpec.ofChange panelBringsWrong)

/-- 'abugidalaw33.PanelFails': WHATEVER THE INPUT: true; the input reads as it did. -/
def panelFailsSpec : ChangeSpec := { name := "panelFails", fn := fun _ => fun
  | [d1, d2] => { results := [.lit (.bool true)], args := [d1, d2] }
  | _ => none }
def panelFailsRow : OpenClaim := { program := "ytmmcadbkmfjcbaadoor", sum := "de447cd6cdac753e8f5061603dae8dc612df153dd4e0e4801926e7700bf3d83e", func := "abugida/abugidalaw33.PanelFails", spec := "panelFails", inPlace := ["slices.overlaps[abugida/api.Rect]"], unfollowed := true, recurses := true, named := ["math/bits.deBruijn64tab"], apart := false, laid := [("math/bits.deBruijn64tab", laid_math_bits_deBruijn64tab)] }
def PanelFailsSaid : Prop := panelFailsRow.holds Tryd.pinned (OpenSpec.ofChange panelFailsSpec)

/-- ITS FALSE NEIGHBOUR: 'it returns false'. Refute it at one input. -/
def panelFailsWrong : ChangeSpec := { name := "panelFails", fn := fun _ => fun
  | [d1, d2] => { results := [.lit (.bool false)], args := [d1, d2] }
  | _ => none }
def PanelFailsWrongFalsely : Prop := panelFailsRow.holds Tryd.pinned (OpenSpec.ofChange panelFailsWrong)

/-- 'abugidalaw33.PanelCovers': WHATEVER THE INPUT: true; the input reads as it did. -/
def panelCoversSpec : ChangeSpec := { name := "panelCovers", fn := fun _ => fun
  | [d] => { results := [.lit (.bool true)], args := [d] }
  | _ => none }
def panelCoversRow : OpenClaim := { program := "ytmmcadbkmfjcbaadoor", sum := "de447cd6cdac753e8f5061603dae8dc612df153dd4e0e4801926e7700bf3d83e", func := "abugida/abugidalaw33.PanelCovers", spec := "panelCovers", inPlace := ["slices.overlaps[abugida/api.Rect]"], unfollowed := true, recurses := true, named := ["math/bits.deBruijn64tab"], apart := false, laid := [("math/bits.deBruijn64tab", laid_math_bits_deBruijn64tab)] }
def PanelCoversSaid : Prop := panelCoversRow.holds Tryd.pinned (OpenSpec.ofChange panelCoversSpec)

/-- ITS FALSE NEIGHBOUR: 'it returns false'. Refute it at one input. -/
def panelCoversWrong : ChangeSpec := { name := "panelCovers", fn := fun _ => fun
  | [d] => { results := [.lit (.bool false)], args := [d] }
  | _ => none }
def PanelCoversWrongFalsely : Prop := panelCoversRow.holds Tryd.pinned (OpenSpec.ofChange panelCoversWrong)

/-- 'abugidalaw33.PanelMore': WHATEVER THE INPUT: true; the input reads as it did. -/
def panelMoreSpec : ChangeSpec := { name := "panelMore", fn := fun _ => fun
  | [d1, d2] => { results := [.lit (.bool true)], args := [d1, d2] }
  | _ => none }
def panelMoreRow : OpenClaim := { program := "ytmmcadbkmfjcbaadoor", sum := "de447cd6cdac753e8f5061603dae8dc612df153dd4e0e4801926e7700bf3d83e", func := "abugida/abugidalaw33.PanelMore", spec := "panelMore", inPlace := ["slices.overlaps[abugida/api.Rect]"], unfollowed := true, recurses := true, named := ["math/bits.deBruijn64tab"], apart := false, laid := [("math/bits.deBruijn64tab", laid_math_bits_deBruijn64tab)] }
def PanelMoreSaid : Prop := panelMoreRow.holds Tryd.pinned (OpenSpec.ofChange panelMoreSpec)

/-- ITS FALSE NEIGHBOUR: 'it returns false'. Refute it at one input. -/
def panelMoreWrong : ChangeSpec := { name := "panelMore", fn := fun _ => fun
  | [d1, d2] => { results := [.lit (.bool false)], args := [d1, d2] }
  | _ => none }
def PanelMoreWrongFalsely : Prop := panelMoreRow.holds Tryd.pinned (OpenSpec.ofChange panelMoreWrong)

/-- 'abugidalaw33.PanelNone': WHATEVER THE INPUT: true; the input reads as it did. -/
def panelNoneSpec : ChangeSpec := { name := "panelNone", fn := fun _ => fun
  | [d1, d2, d3] => { results := [.lit (.bool true)], args := [d1, d2, d3] }
  | _ => none }
def panelNoneRow : OpenClaim := { program := "ytmmcadbkmfjcbaadoor", sum := "de447cd6cdac753e8f5061603dae8dc612df153dd4e0e4801926e7700bf3d83e", func := "abugida/abugidalaw33.PanelNone", spec := "panelNone", inPlace := ["slices.overlaps[abugida/api.Rect]"], unfollowed := true, recurses := true, named := ["math/bits.deBruijn64tab"], apart := false, laid := [("math/bits.deBruijn64tab", laid_math_bits_deBruijn64tab)] }
def PanelNoneSaid : Prop := panelNoneRow.holds Tryd.pinned (OpenSpec.ofChange panelNoneSpec)

/-- ITS FALSE NEIGHBOUR: 'it returns false'. Refute it at one input. -/
def panelNoneWrong : ChangeSpec := { name := "panelNone", fn := fun _ => fun
  | [d1, d2, d3] => { results := [.lit (.bool false)], args := [d1, d2, d3] }
  | _ => none }
def PanelNoneWrongFalsely : Prop := panelNoneRow.holds Tryd.pinned (OpenSpec.ofChange panelNoneWrong)

/- THE SECOND FORM. 'bulk': how many values and letters a reading holds, each counted each time it is reached (what is shared counts as often as it is met; a slice's spare places count too). A statement '..UptoSaid' is the law's where the arguments, and the package variables that the reading takes, are together of bulk at most 1048576: NARROWER than '..Said'. Prove '..Said' where nothing that the law and all that it calls make is longer than what came in: it says more and counts as full. Else prove '..UptoSaid'. A law counts once. -/
mutual
def uptoBulk {H : Type} : DataW H → Nat
  | .lit (.string bytes) => bytes.length + 1
  | .lit _ => 1
  | .nil => 1
  | .ptr d => uptoBulk d + 1
  | .slice elems spare => uptoBulkAll elems + uptoBulkAll spare + 1
  | .agg parts => uptoBulkAll parts + 1
  | .iface _ d => uptoBulk d + 1
  | .map entries => uptoBulkEntries entries + 1
  | .held _ => 1
def uptoBulkAll {H : Type} : List (DataW H) → Nat
  | [] => 0
  | d :: r => uptoBulk d + uptoBulkAll r
def uptoBulkEntries {H : Type} : List (Lit × DataW H) → Nat
  | [] => 0
  | x :: r => uptoBulkEntry x + uptoBulkEntries r
def uptoBulkEntry {H : Type} : Lit × DataW H → Nat
  | (.string bytes, d) => bytes.length + uptoBulk d + 1
  | (_, d) => uptoBulk d + 1
 end
def uptoSmall : (H : Type) → List (DataW H) → Bool := fun _ ds => decide (uptoBulkAll ds ≤ 1048576)
def OpenSpec.upto (s : _root_.Go.ChangeSpec) : _root_.Go.OpenSpec := { _root_.Go.OpenSpec.ofChange s with cond := some uptoSmall }

/-- 'abugidalaw33.PanelWrites', WHERE WHAT IT READS IS OF BULK AT MOST 1048576: true; the input reads as it did. -/
def panelWritesUptoRow : OpenClaim := { program := "ytmmcadbkmfjcbaadoor", sum := "de447cd6cdac753e8f5061603dae8dc612df153dd4e0e4801926e7700bf3d83e", func := "abugida/abugidalaw33.PanelWrites", spec := "panelWrites", inPlace := ["slices.overlaps[abugida/api.Rect]"], unfollowed := true, recurses := true, named := ["math/bits.deBruijn64tab"], apart := false, laid := [("math/bits.deBruijn64tab", laid_math_bits_deBruijn64tab)], narrowed := true }
def PanelWritesUptoSaid : Prop := panelWritesUptoRow.holds Tryd.pinned (OpenSpec.upto panelWritesSpec)

/-- 'abugidalaw33.PanelPlans', WHERE WHAT IT READS IS OF BULK AT MOST 1048576: true; the input reads as it did. -/
def panelPlansUptoRow : OpenClaim := { program := "ytmmcadbkmfjcbaadoor", sum := "de447cd6cdac753e8f5061603dae8dc612df153dd4e0e4801926e7700bf3d83e", func := "abugida/abugidalaw33.PanelPlans", spec := "panelPlans", inPlace := ["slices.overlaps[abugida/api.Rect]"], unfollowed := true, recurses := true, named := ["math/bits.deBruijn64tab"], apart := false, laid := [("math/bits.deBruijn64tab", laid_math_bits_deBruijn64tab)], narrowed := true }
def PanelPlansUptoSaid : Prop := panelPlansUptoRow.holds Tryd.pinned (OpenSpec.upto panelPlansSpec)

/-- 'abugidalaw33.PanelCuts', WHERE WHAT IT READS IS OF BULK AT MOST 1048576: true; the input reads as it did. -/
def panelCutsUptoRow : OpenClaim := { program := "ytmmcadbkmfjcbaadoor", sum := "de447cd6cdac753e8f5061603dae8dc612df153dd4e0e4801926e7700bf3d83e", func := "abugida/abugidalaw33.PanelCuts", spec := "panelCuts", inPlace := ["slices.overlaps[abugida/api.Rect]"], unfollowed := true, recurses := true, named := ["math/bits.deBruijn64tab"], apart := false, laid := [("math/bits.deBruijn64tab", laid_math_bits_deBruijn64tab)], narrowed := true }
def PanelCutsUptoSaid : Prop := panelCutsUptoRow.holds Tryd.pinned (OpenSpec.upto panelCutsSpec)

/-- 'abugidalaw33.PanelBrings', WHERE WHAT IT READS IS OF BULK AT MOST 1048576: true; the input reads as it did. -/
def panelBringsUptoRow : OpenClaim := { program := "ytmmcadbkmfjcbaadoor", sum := "de447cd6cdac753e8f5061603dae8dc612df153dd4e0e4801926e7700bf3d83e", func := "abugida/abugidalaw33.PanelBrings", spec := "panelBrings", inPlace := ["slices.overlaps[abugida/api.Rect]"], unfollowed := true, recurses := true, named := ["math/bits.deBruijn64tab"], apart := false, laid := [("math/bits.deBruijn64tab", laid_math_bits_deBruijn64tab)], narrowed := true }
def PanelBringsUptoSaid : Prop := panelBringsUptoRow.holds Tryd.pinned (OpenSpec.upto panelBringsSpec)

/-- 'abugidalaw33.PanelFails', WHERE WHAT IT READS IS OF BULK AT MOST 1048576: true; the input reads as it did. -/
def panelFailsUptoRow : OpenClaim := { program := "ytmmcadbkmfjcbaadoor", sum := "de447cd6cdac753e8f5061603dae8dc612df153dd4e0e4801926e7700bf3d83e", func := "abugida/abugidalaw33.PanelFails", spec := "panelFails", inPlace := ["slices.overlaps[abugida/api.Rect]"], unfollowed := true, recurses := true, named := ["math/bits.deBruijn64tab"], apart := false, laid := [("math/bits.deBruijn64tab", laid_math_bits_deBruijn64tab)], narrowed := true }
def PanelFailsUptoSaid : Prop := panelFailsUptoRow.holds Tryd.pinned (OpenSpec.upto panelFailsSpec)

/-- 'abugidalaw33.PanelCovers', WHERE WHAT IT READS IS OF BULK AT MOST 1048576: true; the input reads as it did. -/
def panelCoversUptoRow : OpenClaim := { program := "ytmmcadbkmfjcbaadoor", sum := "de447cd6cdac753e8f5061603dae8dc612df153dd4e0e4801926e7700bf3d83e", func := "abugida/abugidalaw33.PanelCovers", spec := "panelCovers", inPlace := ["slices.overlaps[abugida/api.Rect]"], unfollowed := true, recurses := true, named := ["math/bits.deBruijn64tab"], apart := false, laid := [("math/bits.deBruijn64tab", laid_math_bits_deBruijn64tab)], narrowed := true }
def PanelCoversUptoSaid : Prop := panelCoversUptoRow.holds Tryd.pinned (OpenSpec.upto panelCoversSpec)

/-- 'abugidalaw33.PanelMore', WHERE WHAT IT READS IS OF BULK AT MOST 1048576: true; the input reads as it did. -/
def panelMoreUptoRow : OpenClaim := { program := "ytmmcadbkmfjcbaadoor", sum := "de447cd6cdac753e8f5061603dae8dc612df153dd4e0e4801926e7700bf3d83e", func := "abugida/abugidalaw33.PanelMore", spec := "panelMore", inPlace := ["slices.overlaps[abugida/api.Rect]"], unfollowed := true, recurses := true, named := ["math/bits.deBruijn64tab"], apart := false, laid := [("math/bits.deBruijn64tab", laid_math_bits_deBruijn64tab)], narrowed := true }
def PanelMoreUptoSaid : Prop := panelMoreUptoRow.holds Tryd.pinned (OpenSpec.upto panelMoreSpec)

/-- 'abugidalaw33.PanelNone', WHERE WHAT IT READS IS OF BULK AT MOST 1048576: true; the input reads as it did. -/
def panelNoneUptoRow : OpenClaim := { program := "ytmmcadbkmfjcbaadoor", sum := "de447cd6cdac753e8f5061603dae8dc612df153dd4e0e4801926e7700bf3d83e", func := "abugida/abugidalaw33.PanelNone", spec := "panelNone", inPlace := ["slices.overlaps[abugida/api.Rect]"], unfollowed := true, recurses := true, named := ["math/bits.deBruijn64tab"], apart := false, laid := [("math/bits.deBruijn64tab", laid_math_bits_deBruijn64tab)], narrowed := true }
def PanelNoneUptoSaid : Prop := panelNoneUptoRow.holds Tryd.pinned (OpenSpec.upto panelNoneSpec)

end Rows
end Go.Proofs.YtmmcadbkmfjcbaaDoor
