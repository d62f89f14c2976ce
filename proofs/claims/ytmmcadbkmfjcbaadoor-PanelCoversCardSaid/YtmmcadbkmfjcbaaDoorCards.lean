/-
  DERIVED. GIVEN WITH THE SEED: THE CARDS: each row of YtmmcadbkmfjcbaaDoorRows.lean that lists a variable, with what it lists TIED to the program's text (the seventh form; the later family's looks); each row that meets fmt, with fmt's text TOLD by the authors' own Lean function (tested against real Go, not proved from fmt's source: count such statements apart). THE CARD IS WHAT COUNTS. Prove the row's statement (the work); the ties are given (YtmmcadbkmfjcbaaDoorTie.lean); close each card by the builder's one call (the guide's Derived/Test/ToyasCard.lean, 'card_holds'). Laid BY PROGRAM, IN A SANDBOX (cutbox-door.mjs). By AI agents, Wed Nov 11 2026. No macro, syntax, notation, axiom, sorry.
-/
import Derived.Test.YtmmcadbkmfjcbaaDoorRows
import GoSem.ClaimSeven
namespace Go.Proofs.YtmmcadbkmfjcbaaDoor
namespace Rows

/-- THE TIED CARD OF 'abugidalaw33.PanelWrites'. -/
def panelWritesCard : Claim7 := { stood := { row := panelWritesRow, standIns := [], harness := (true, "25a4f44067088f67ef093edf294a06de5e87a356ffad8e89decfa3de4b34720f"), looks := false }, kinds := [], alts := [], laidByText := true, laidKinds := [.data], laidTests := true, laidLooks := .later }
def PanelWritesCardSaid : Prop := Claim7.holds Tryd.pinned (.plain (OpenSpec.ofChange panelWritesSpec)) panelWritesCard

/-- THE TIED CARD OF 'abugidalaw33.PanelPlans'. -/
def panelPlansCard : Claim7 := { stood := { row := panelPlansRow, standIns := [], harness := (true, "25a4f44067088f67ef093edf294a06de5e87a356ffad8e89decfa3de4b34720f"), looks := false }, kinds := [], alts := [], laidByText := true, laidKinds := [.data], laidTests := true, laidLooks := .later }
def PanelPlansCardSaid : Prop := Claim7.holds Tryd.pinned (.plain (OpenSpec.ofChange panelPlansSpec)) panelPlansCard

/-- THE TIED CARD OF 'abugidalaw33.PanelCuts'. -/
def panelCutsCard : Claim7 := { stood := { row := panelCutsRow, standIns := [], harness := (true, "25a4f44067088f67ef093edf294a06de5e87a356ffad8e89decfa3de4b34720f"), looks := false }, kinds := [], alts := [], laidByText := true, laidKinds := [.data], laidTests := true, laidLooks := .later }
def PanelCutsCardSaid : Prop := Claim7.holds Tryd.pinned (.plain (OpenSpec.ofChange panelCutsSpec)) panelCutsCard

/-- THE TIED CARD OF 'abugidalaw33.PanelBrings'. -/
def panelBringsCard : Claim7 := { stood := { row := panelBringsRow, standIns := [], harness := (true, "25a4f44067088f67ef093edf294a06de5e87a356ffad8e89decfa3de4b34720f"), looks := false }, kinds := [], alts := [], laidByText := true, laidKinds := [.data], laidTests := true, laidLooks := .later }
def PanelBringsCardSaid : Prop := Claim7.holds Tryd.pinned (.plain (OpenSpec.ofChange panelBringsSpec)) panelBringsCard

/-- THE TIED CARD OF 'abugidalaw33.PanelFails'. -/
def panelFailsCard : Claim7 := { stood := { row := panelFailsRow, standIns := [], harness := (true, "25a4f44067088f67ef093edf294a06de5e87a356ffad8e89decfa3de4b34720f"), looks := false }, kinds := [], alts := [], laidByText := true, laidKinds := [.data], laidTests := true, laidLooks := .later }
def PanelFailsCardSaid : Prop := Claim7.holds Tryd.pinned (.plain (OpenSpec.ofChange panelFailsSpec)) panelFailsCard

/-- THE TIED CARD OF 'abugidalaw33.PanelCovers'. -/
def panelCoversCard : Claim7 := { stood := { row := panelCoversRow, standIns := [], harness := (true, "25a4f44067088f67ef093edf294a06de5e87a356ffad8e89decfa3de4b34720f"), looks := false }, kinds := [], alts := [], laidByText := true, laidKinds := [.data], laidTests := true, laidLooks := .later }
def PanelCoversCardSaid : Prop := Claim7.holds Tryd.pinned (.plain (OpenSpec.ofChange panelCoversSpec)) panelCoversCard

/-- THE TIED CARD OF 'abugidalaw33.PanelMore'. -/
def panelMoreCard : Claim7 := { stood := { row := panelMoreRow, standIns := [], harness := (true, "25a4f44067088f67ef093edf294a06de5e87a356ffad8e89decfa3de4b34720f"), looks := false }, kinds := [], alts := [], laidByText := true, laidKinds := [.data], laidTests := true, laidLooks := .later }
def PanelMoreCardSaid : Prop := Claim7.holds Tryd.pinned (.plain (OpenSpec.ofChange panelMoreSpec)) panelMoreCard

/-- THE TIED CARD OF 'abugidalaw33.PanelNone'. -/
def panelNoneCard : Claim7 := { stood := { row := panelNoneRow, standIns := [], harness := (true, "25a4f44067088f67ef093edf294a06de5e87a356ffad8e89decfa3de4b34720f"), looks := false }, kinds := [], alts := [], laidByText := true, laidKinds := [.data], laidTests := true, laidLooks := .later }
def PanelNoneCardSaid : Prop := Claim7.holds Tryd.pinned (.plain (OpenSpec.ofChange panelNoneSpec)) panelNoneCard

/-- THE SECOND FORM's CARD OF 'abugidalaw33.PanelWrites'. -/
def panelWritesUptoCard : Claim7 := { stood := { row := panelWritesUptoRow, standIns := [], harness := (true, "25a4f44067088f67ef093edf294a06de5e87a356ffad8e89decfa3de4b34720f"), looks := false }, kinds := [], alts := [], laidByText := true, laidKinds := [.data], laidTests := true, laidLooks := .later }
def PanelWritesUptoCardSaid : Prop := Claim7.holds Tryd.pinned (.plain (OpenSpec.upto panelWritesSpec)) panelWritesUptoCard

/-- THE SECOND FORM's CARD OF 'abugidalaw33.PanelPlans'. -/
def panelPlansUptoCard : Claim7 := { stood := { row := panelPlansUptoRow, standIns := [], harness := (true, "25a4f44067088f67ef093edf294a06de5e87a356ffad8e89decfa3de4b34720f"), looks := false }, kinds := [], alts := [], laidByText := true, laidKinds := [.data], laidTests := true, laidLooks := .later }
def PanelPlansUptoCardSaid : Prop := Claim7.holds Tryd.pinned (.plain (OpenSpec.upto panelPlansSpec)) panelPlansUptoCard

/-- THE SECOND FORM's CARD OF 'abugidalaw33.PanelCuts'. -/
def panelCutsUptoCard : Claim7 := { stood := { row := panelCutsUptoRow, standIns := [], harness := (true, "25a4f44067088f67ef093edf294a06de5e87a356ffad8e89decfa3de4b34720f"), looks := false }, kinds := [], alts := [], laidByText := true, laidKinds := [.data], laidTests := true, laidLooks := .later }
def PanelCutsUptoCardSaid : Prop := Claim7.holds Tryd.pinned (.plain (OpenSpec.upto panelCutsSpec)) panelCutsUptoCard

/-- THE SECOND FORM's CARD OF 'abugidalaw33.PanelBrings'. -/
def panelBringsUptoCard : Claim7 := { stood := { row := panelBringsUptoRow, standIns := [], harness := (true, "25a4f44067088f67ef093edf294a06de5e87a356ffad8e89decfa3de4b34720f"), looks := false }, kinds := [], alts := [], laidByText := true, laidKinds := [.data], laidTests := true, laidLooks := .later }
def PanelBringsUptoCardSaid : Prop := Claim7.holds Tryd.pinned (.plain (OpenSpec.upto panelBringsSpec)) panelBringsUptoCard

/-- THE SECOND FORM's CARD OF 'abugidalaw33.PanelFails'. -/
def panelFailsUptoCard : Claim7 := { stood := { row := panelFailsUptoRow, standIns := [], harness := (true, "25a4f44067088f67ef093edf294a06de5e87a356ffad8e89decfa3de4b34720f"), looks := false }, kinds := [], alts := [], laidByText := true, laidKinds := [.data], laidTests := true, laidLooks := .later }
def PanelFailsUptoCardSaid : Prop := Claim7.holds Tryd.pinned (.plain (OpenSpec.upto panelFailsSpec)) panelFailsUptoCard

/-- THE SECOND FORM's CARD OF 'abugidalaw33.PanelCovers'. -/
def panelCoversUptoCard : Claim7 := { stood := { row := panelCoversUptoRow, standIns := [], harness := (true, "25a4f44067088f67ef093edf294a06de5e87a356ffad8e89decfa3de4b34720f"), looks := false }, kinds := [], alts := [], laidByText := true, laidKinds := [.data], laidTests := true, laidLooks := .later }
def PanelCoversUptoCardSaid : Prop := Claim7.holds Tryd.pinned (.plain (OpenSpec.upto panelCoversSpec)) panelCoversUptoCard

/-- THE SECOND FORM's CARD OF 'abugidalaw33.PanelMore'. -/
def panelMoreUptoCard : Claim7 := { stood := { row := panelMoreUptoRow, standIns := [], harness := (true, "25a4f44067088f67ef093edf294a06de5e87a356ffad8e89decfa3de4b34720f"), looks := false }, kinds := [], alts := [], laidByText := true, laidKinds := [.data], laidTests := true, laidLooks := .later }
def PanelMoreUptoCardSaid : Prop := Claim7.holds Tryd.pinned (.plain (OpenSpec.upto panelMoreSpec)) panelMoreUptoCard

/-- THE SECOND FORM's CARD OF 'abugidalaw33.PanelNone'. -/
def panelNoneUptoCard : Claim7 := { stood := { row := panelNoneUptoRow, standIns := [], harness := (true, "25a4f44067088f67ef093edf294a06de5e87a356ffad8e89decfa3de4b34720f"), looks := false }, kinds := [], alts := [], laidByText := true, laidKinds := [.data], laidTests := true, laidLooks := .later }
def PanelNoneUptoCardSaid : Prop := Claim7.holds Tryd.pinned (.plain (OpenSpec.upto panelNoneSpec)) panelNoneUptoCard
end Rows
end Go.Proofs.YtmmcadbkmfjcbaaDoor
