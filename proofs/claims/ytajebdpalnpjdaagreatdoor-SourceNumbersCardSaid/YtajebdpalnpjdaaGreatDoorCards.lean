/-
  DERIVED. GIVEN WITH THE SEED: THE CARDS: each row of YtajebdpalnpjdaaGreatDoorRows.lean that lists a variable, with what it lists TIED to the program's text (the seventh form; the later family's looks); each row that meets fmt, with fmt's text TOLD by the authors' own Lean function (tested against real Go, not proved from fmt's source: count such statements apart). THE CARD IS WHAT COUNTS. Prove the row's statement (the work); the ties are given (YtajebdpalnpjdaaGreatDoorTie.lean); close each card by the builder's one call (the guide's Derived/Test/ToyasCard.lean, 'card_holds'). Laid BY PROGRAM, IN A SANDBOX (cutbox-door.mjs). By AI agents, Wed Nov 11 2026. No macro, syntax, notation, axiom, sorry.
-/
import Derived.Test.YtajebdpalnpjdaaGreatDoorRows
import GoSem.ClaimSeven
namespace Go.Proofs.YtajebdpalnpjdaaGreatDoor
namespace Rows

/-- THE TIED CARD OF 'abugidalaw21.SourceNumbers'. -/
def sourceNumbersCard : Claim7 := { stood := { row := sourceNumbersRow, standIns := [], harness := (true, "85ec771adf1e78af0166a1dc0a25724bfadf26304c61c2abf4de0152c0ec15da"), looks := true }, kinds := [], alts := [], laidByText := true, laidKinds := [.data, .data, .data, .data, .sentinel, .sentinel, .listed, .data, .pinned], laidTests := true, laidLooks := .later }
def SourceNumbersCardSaid : Prop := Claim7.holds Tryz.pinned (.plain (OpenSpec.ofChange sourceNumbersSpec)) sourceNumbersCard

/-- THE SECOND FORM's CARD OF 'abugidalaw21.SourceNumbers'. -/
def sourceNumbersUptoCard : Claim7 := { stood := { row := sourceNumbersUptoRow, standIns := [], harness := (true, "85ec771adf1e78af0166a1dc0a25724bfadf26304c61c2abf4de0152c0ec15da"), looks := true }, kinds := [], alts := [], laidByText := true, laidKinds := [.data, .data, .data, .data, .sentinel, .sentinel, .listed, .data, .pinned], laidTests := true, laidLooks := .later }
def SourceNumbersUptoCardSaid : Prop := Claim7.holds Tryz.pinned (.plain (OpenSpec.upto sourceNumbersSpec)) sourceNumbersUptoCard
end Rows
end Go.Proofs.YtajebdpalnpjdaaGreatDoor
