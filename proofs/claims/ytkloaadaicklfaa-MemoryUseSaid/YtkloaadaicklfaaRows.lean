/-
  No cell of these rows narrows 'for every input' (looked for: loops, veiled, ifaces, maps, wideKeys, modest, calm, conditions, laid).
  DERIVED. THE GIVEN ROWS OF THIS SEAT. 7 by the template 'for every input the law returns true; each argument reads behind the call as it read before'; 0 by the template 'total and deterministic' (their statements: YtkloaadaicklfaaTotals.lean).
  GIVEN WITH THE SEED: the statements are not yours to turn. If you find one false, say at which input.
  Laid BY PROGRAM, IN A SANDBOX (cutbox-rows.mjs): the forced cells as the released guide's own fill.sh prints them over the translation 93341132a190142a… (all of the seat's roots in one cut). By AI agents, Wed Nov 11 2026. No macro, syntax, notation, axiom, sorry.
-/
import Derived.Test.YtkloaadaicklfaaChecked
import GoSem.Claim
import GoSem.ClaimJoined
import GoSem.ClaimMapViews
import Derived.JoinedTies
import Derived.KernelRfl
namespace Go.Proofs.Ytkloaadaicklfaa
/- THE CELL 'sum', in the pinned program and in every row, IS THE sha256 OF THE DUMP (.gsa) THAT YtkloaadaicklfaaProg.lean LOADS. Nothing in Lean hashes anything: it is a label: what it is worth is what the hold of that sum in a sandbox is worth. -/
noncomputable def Try.pinned : Pinned := { name := "ytkloaadaicklfaa", sum := "93341132a190142a04c11f3f68180c493463cb249e12a15a8a70ab581e27fd0a", checked := Try.checked }
namespace Rows
def none {H : Type} : Left H := { results := [], args := [] }

/-- 'abugidalaw31.MemoryPlays': WHATEVER THE INPUT: true; the input reads as it did. -/
def memoryPlaysSpec : ChangeSpec := { name := "memoryPlays", fn := fun _ => fun
  | [d1, d2] => { results := [.lit (.bool true)], args := [d1, d2] }
  | _ => none }
def memoryPlaysRow : OpenClaim := { program := "ytkloaadaicklfaa", sum := "93341132a190142a04c11f3f68180c493463cb249e12a15a8a70ab581e27fd0a", func := "abugida/abugidalaw31.MemoryPlays", spec := "memoryPlays", plainKeys := false, apart := false }
def MemoryPlaysSaid : Prop := memoryPlaysRow.holds Try.pinned (OpenSpec.ofChange memoryPlaysSpec)

/-- ITS FALSE NEIGHBOUR: 'it returns false'. Refute it at one input. -/
def memoryPlaysWrong : ChangeSpec := { name := "memoryPlays", fn := fun _ => fun
  | [d1, d2] => { results := [.lit (.bool false)], args := [d1, d2] }
  | _ => none }
def MemoryPlaysWrongFalsely : Prop := memoryPlaysRow.holds Try.pinned (OpenSpec.ofChange memoryPlaysWrong)

/-- 'abugidalaw31.MemoryBudget': WHATEVER THE INPUT: true; the input reads as it did. -/
def memoryBudgetSpec : ChangeSpec := { name := "memoryBudget", fn := fun _ => fun
  | [d1, d2] => { results := [.lit (.bool true)], args := [d1, d2] }
  | _ => none }
def memoryBudgetRow : OpenClaim := { program := "ytkloaadaicklfaa", sum := "93341132a190142a04c11f3f68180c493463cb249e12a15a8a70ab581e27fd0a", func := "abugida/abugidalaw31.MemoryBudget", spec := "memoryBudget", plainKeys := false, apart := false }
def MemoryBudgetSaid : Prop := memoryBudgetRow.holds Try.pinned (OpenSpec.ofChange memoryBudgetSpec)

/-- ITS FALSE NEIGHBOUR: 'it returns false'. Refute it at one input. -/
def memoryBudgetWrong : ChangeSpec := { name := "memoryBudget", fn := fun _ => fun
  | [d1, d2] => { results := [.lit (.bool false)], args := [d1, d2] }
  | _ => none }
def MemoryBudgetWrongFalsely : Prop := memoryBudgetRow.holds Try.pinned (OpenSpec.ofChange memoryBudgetWrong)

/-- 'abugidalaw31.MemoryOldest': WHATEVER THE INPUT: true; the input reads as it did. -/
def memoryOldestSpec : ChangeSpec := { name := "memoryOldest", fn := fun _ => fun
  | [d1, d2, d3] => { results := [.lit (.bool true)], args := [d1, d2, d3] }
  | _ => none }
def memoryOldestRow : OpenClaim := { program := "ytkloaadaicklfaa", sum := "93341132a190142a04c11f3f68180c493463cb249e12a15a8a70ab581e27fd0a", func := "abugida/abugidalaw31.MemoryOldest", spec := "memoryOldest", plainKeys := false, apart := false }
def MemoryOldestSaid : Prop := memoryOldestRow.holds Try.pinned (OpenSpec.ofChange memoryOldestSpec)

/-- ITS FALSE NEIGHBOUR: 'it returns false'. Refute it at one input. -/
def memoryOldestWrong : ChangeSpec := { name := "memoryOldest", fn := fun _ => fun
  | [d1, d2, d3] => { results := [.lit (.bool false)], args := [d1, d2, d3] }
  | _ => none }
def MemoryOldestWrongFalsely : Prop := memoryOldestRow.holds Try.pinned (OpenSpec.ofChange memoryOldestWrong)

/-- 'abugidalaw31.MemoryPinned': WHATEVER THE INPUT: true; the input reads as it did. -/
def memoryPinnedSpec : ChangeSpec := { name := "memoryPinned", fn := fun _ => fun
  | [d1, d2, d3] => { results := [.lit (.bool true)], args := [d1, d2, d3] }
  | _ => none }
def memoryPinnedRow : OpenClaim := { program := "ytkloaadaicklfaa", sum := "93341132a190142a04c11f3f68180c493463cb249e12a15a8a70ab581e27fd0a", func := "abugida/abugidalaw31.MemoryPinned", spec := "memoryPinned", plainKeys := false, apart := false }
def MemoryPinnedSaid : Prop := memoryPinnedRow.holds Try.pinned (OpenSpec.ofChange memoryPinnedSpec)

/-- ITS FALSE NEIGHBOUR: 'it returns false'. Refute it at one input. -/
def memoryPinnedWrong : ChangeSpec := { name := "memoryPinned", fn := fun _ => fun
  | [d1, d2, d3] => { results := [.lit (.bool false)], args := [d1, d2, d3] }
  | _ => none }
def MemoryPinnedWrongFalsely : Prop := memoryPinnedRow.holds Try.pinned (OpenSpec.ofChange memoryPinnedWrong)

/-- 'abugidalaw31.MemoryErrors': WHATEVER THE INPUT: true; the input reads as it did. -/
def memoryErrorsSpec : ChangeSpec := { name := "memoryErrors", fn := fun _ => fun
  | [d1, d2, d3] => { results := [.lit (.bool true)], args := [d1, d2, d3] }
  | _ => none }
def memoryErrorsRow : OpenClaim := { program := "ytkloaadaicklfaa", sum := "93341132a190142a04c11f3f68180c493463cb249e12a15a8a70ab581e27fd0a", func := "abugida/abugidalaw31.MemoryErrors", spec := "memoryErrors", plainKeys := false, apart := false }
def MemoryErrorsSaid : Prop := memoryErrorsRow.holds Try.pinned (OpenSpec.ofChange memoryErrorsSpec)

/-- ITS FALSE NEIGHBOUR: 'it returns false'. Refute it at one input. -/
def memoryErrorsWrong : ChangeSpec := { name := "memoryErrors", fn := fun _ => fun
  | [d1, d2, d3] => { results := [.lit (.bool false)], args := [d1, d2, d3] }
  | _ => none }
def MemoryErrorsWrongFalsely : Prop := memoryErrorsRow.holds Try.pinned (OpenSpec.ofChange memoryErrorsWrong)

/-- 'abugidalaw31.MemoryUse': WHATEVER THE INPUT: true; the input reads as it did. -/
def memoryUseSpec : ChangeSpec := { name := "memoryUse", fn := fun _ => fun
  | [d1, d2, d3] => { results := [.lit (.bool true)], args := [d1, d2, d3] }
  | _ => none }
def memoryUseRow : OpenClaim := { program := "ytkloaadaicklfaa", sum := "93341132a190142a04c11f3f68180c493463cb249e12a15a8a70ab581e27fd0a", func := "abugida/abugidalaw31.MemoryUse", spec := "memoryUse", plainKeys := false, apart := false }
def MemoryUseSaid : Prop := memoryUseRow.holds Try.pinned (OpenSpec.ofChange memoryUseSpec)

/-- ITS FALSE NEIGHBOUR: 'it returns false'. Refute it at one input. -/
def memoryUseWrong : ChangeSpec := { name := "memoryUse", fn := fun _ => fun
  | [d1, d2, d3] => { results := [.lit (.bool false)], args := [d1, d2, d3] }
  | _ => none }
def MemoryUseWrongFalsely : Prop := memoryUseRow.holds Try.pinned (OpenSpec.ofChange memoryUseWrong)

/-- 'abugidalaw31.MemoryNil': WHATEVER THE INPUT: true; the input reads as it did. -/
def memoryNilSpec : ChangeSpec := { name := "memoryNil", fn := fun _ => fun
  | [d1, d2, d3] => { results := [.lit (.bool true)], args := [d1, d2, d3] }
  | _ => none }
def memoryNilRow : OpenClaim := { program := "ytkloaadaicklfaa", sum := "93341132a190142a04c11f3f68180c493463cb249e12a15a8a70ab581e27fd0a", func := "abugida/abugidalaw31.MemoryNil", spec := "memoryNil", plainKeys := false, apart := false }
def MemoryNilSaid : Prop := memoryNilRow.holds Try.pinned (OpenSpec.ofChange memoryNilSpec)

/-- ITS FALSE NEIGHBOUR: 'it returns false'. Refute it at one input. -/
def memoryNilWrong : ChangeSpec := { name := "memoryNil", fn := fun _ => fun
  | [d1, d2, d3] => { results := [.lit (.bool false)], args := [d1, d2, d3] }
  | _ => none }
def MemoryNilWrongFalsely : Prop := memoryNilRow.holds Try.pinned (OpenSpec.ofChange memoryNilWrong)

/- THE SECOND FORM. 'bulk': how many values and letters a reading holds, each counted each time it is reached (what is shared counts as often as it is met; a slice's spare places count too). A statement '..UptoSaid' is the law's where the arguments, and the package variables that the reading takes, are together of bulk at most 1048576: NARROWER than '..Said'. Prove '..Said' where nothing that the law and all that it calls make is longer than what came in: it says more and counts as full. Else prove '..UptoSaid'. A law counts once. -/
mutual
def uptoBulk {H : Type} : DataW H → Nat
  | .lit (.string bytes) => bytes.length + 1
  | .lit _ => 1
  | .nil => 1
  | .ptr d => uptoBulk d + 1
  | .slice elems spare => uptoBulkAll elems + uptoBulkAll spare + 1
  | .agg parts => uptoBulkAll parts + 1
  | .iface _ d => uptoBulk d + 1
  | .map entries => uptoBulkEntries entries + 1
  | .held _ => 1
def uptoBulkAll {H : Type} : List (DataW H) → Nat
  | [] => 0
  | d :: r => uptoBulk d + uptoBulkAll r
def uptoBulkEntries {H : Type} : List (Lit × DataW H) → Nat
  | [] => 0
  | x :: r => uptoBulkEntry x + uptoBulkEntries r
def uptoBulkEntry {H : Type} : Lit × DataW H → Nat
  | (.string bytes, d) => bytes.length + uptoBulk d + 1
  | (_, d) => uptoBulk d + 1
 end
def uptoSmall : (H : Type) → List (DataW H) → Bool := fun _ ds => decide (uptoBulkAll ds ≤ 1048576)
def OpenSpec.upto (s : _root_.Go.ChangeSpec) : _root_.Go.OpenSpec := { _root_.Go.OpenSpec.ofChange s with cond := some uptoSmall }

/-- 'abugidalaw31.MemoryPlays', WHERE WHAT IT READS IS OF BULK AT MOST 1048576: true; the input reads as it did. -/
def memoryPlaysUptoRow : OpenClaim := { program := "ytkloaadaicklfaa", sum := "93341132a190142a04c11f3f68180c493463cb249e12a15a8a70ab581e27fd0a", func := "abugida/abugidalaw31.MemoryPlays", spec := "memoryPlays", plainKeys := false, apart := false, narrowed := true }
def MemoryPlaysUptoSaid : Prop := memoryPlaysUptoRow.holds Try.pinned (OpenSpec.upto memoryPlaysSpec)

/-- 'abugidalaw31.MemoryBudget', WHERE WHAT IT READS IS OF BULK AT MOST 1048576: true; the input reads as it did. -/
def memoryBudgetUptoRow : OpenClaim := { program := "ytkloaadaicklfaa", sum := "93341132a190142a04c11f3f68180c493463cb249e12a15a8a70ab581e27fd0a", func := "abugida/abugidalaw31.MemoryBudget", spec := "memoryBudget", plainKeys := false, apart := false, narrowed := true }
def MemoryBudgetUptoSaid : Prop := memoryBudgetUptoRow.holds Try.pinned (OpenSpec.upto memoryBudgetSpec)

/-- 'abugidalaw31.MemoryOldest', WHERE WHAT IT READS IS OF BULK AT MOST 1048576: true; the input reads as it did. -/
def memoryOldestUptoRow : OpenClaim := { program := "ytkloaadaicklfaa", sum := "93341132a190142a04c11f3f68180c493463cb249e12a15a8a70ab581e27fd0a", func := "abugida/abugidalaw31.MemoryOldest", spec := "memoryOldest", plainKeys := false, apart := false, narrowed := true }
def MemoryOldestUptoSaid : Prop := memoryOldestUptoRow.holds Try.pinned (OpenSpec.upto memoryOldestSpec)

/-- 'abugidalaw31.MemoryPinned', WHERE WHAT IT READS IS OF BULK AT MOST 1048576: true; the input reads as it did. -/
def memoryPinnedUptoRow : OpenClaim := { program := "ytkloaadaicklfaa", sum := "93341132a190142a04c11f3f68180c493463cb249e12a15a8a70ab581e27fd0a", func := "abugida/abugidalaw31.MemoryPinned", spec := "memoryPinned", plainKeys := false, apart := false, narrowed := true }
def MemoryPinnedUptoSaid : Prop := memoryPinnedUptoRow.holds Try.pinned (OpenSpec.upto memoryPinnedSpec)

/-- 'abugidalaw31.MemoryErrors', WHERE WHAT IT READS IS OF BULK AT MOST 1048576: true; the input reads as it did. -/
def memoryErrorsUptoRow : OpenClaim := { program := "ytkloaadaicklfaa", sum := "93341132a190142a04c11f3f68180c493463cb249e12a15a8a70ab581e27fd0a", func := "abugida/abugidalaw31.MemoryErrors", spec := "memoryErrors", plainKeys := false, apart := false, narrowed := true }
def MemoryErrorsUptoSaid : Prop := memoryErrorsUptoRow.holds Try.pinned (OpenSpec.upto memoryErrorsSpec)

/-- 'abugidalaw31.MemoryUse', WHERE WHAT IT READS IS OF BULK AT MOST 1048576: true; the input reads as it did. -/
def memoryUseUptoRow : OpenClaim := { program := "ytkloaadaicklfaa", sum := "93341132a190142a04c11f3f68180c493463cb249e12a15a8a70ab581e27fd0a", func := "abugida/abugidalaw31.MemoryUse", spec := "memoryUse", plainKeys := false, apart := false, narrowed := true }
def MemoryUseUptoSaid : Prop := memoryUseUptoRow.holds Try.pinned (OpenSpec.upto memoryUseSpec)

/-- 'abugidalaw31.MemoryNil', WHERE WHAT IT READS IS OF BULK AT MOST 1048576: true; the input reads as it did. -/
def memoryNilUptoRow : OpenClaim := { program := "ytkloaadaicklfaa", sum := "93341132a190142a04c11f3f68180c493463cb249e12a15a8a70ab581e27fd0a", func := "abugida/abugidalaw31.MemoryNil", spec := "memoryNil", plainKeys := false, apart := false, narrowed := true }
def MemoryNilUptoSaid : Prop := memoryNilUptoRow.holds Try.pinned (OpenSpec.upto memoryNilSpec)

end Rows
end Go.Proofs.Ytkloaadaicklfaa
