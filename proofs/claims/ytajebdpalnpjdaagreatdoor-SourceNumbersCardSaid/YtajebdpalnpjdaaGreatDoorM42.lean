/-
  What the rows list is what the walks ask for; the arguments, opened.
-/
import Derived.Test.YtajebdpalnpjdaaGreatDoorM05
import Derived.Test.YtajebdpalnpjdaaGreatDoorM00
import Derived.Test.YtajebdpalnpjdaaGreatDoorRows
import Derived.Lay
import Derived.LaidLaws
import Derived.Handed
import Derived.Lib.LaidTab
import Derived.Stop.LaidErr
import Derived.Shelf.Vars
import Derived.MakeChecks
import Derived.ProofKit
import Derived.OpenShut
import Derived.ChangeOld
import Derived.Below
import Derived.ChangeSame
import Derived.Lib.SmallJoins
namespace Go.Proofs.YtajebdpalnpjdaaGreatDoor
open Go.ChangeShapes Go.WideShapes Go.ChangeAt Go.RowKit Go.Deep

theorem own21 : ownKnob Tryz.prog.godebug = none := by kernel_rfl
theorem laidOut21 : laidOutB Tryz.prog = true := by kernel_rfl
def laidHere : List (String × DataW Unit) := [("math/bits.deBruijn32tab", Rows.laid_math_bits_deBruijn32tab), ("math/bits.deBruijn64tab", Rows.laid_math_bits_deBruijn64tab), ("internal/strconv.uint64pow10", Rows.laid_internal_strconv_uint64pow10), ("unicode/utf8.acceptRanges", Rows.laid_unicode_utf8_acceptRanges), ("strconv.ErrRange", Rows.laid_strconv_ErrRange), ("strconv.ErrSyntax", Rows.laid_strconv_ErrSyntax), ("unicode.White_Space", Rows.laid_unicode_White_Space), ("strings.asciiSpace", Rows.laid_strings_asciiSpace), ("unicode/utf8.first", Rows.laid_unicode_utf8_first)]
theorem laidPlain : (laidHere.all fun x => x.2.handleName?.isNone) = true := by kernel_rfl
theorem pow_data : (Rows.laid_internal_strconv_uint64pow10 : DataW Unit) = Lib.tabData .u64 Lib.pow10Tab := by kernel_rfl
theorem spc_data : (Rows.laid_strings_asciiSpace : DataW Unit) = Lib.tabData .u8 Lib.asciiSpaceTab := by kernel_rfl
theorem star_err : "*" ++ "errors.errorString" = "*errors.errorString" := by decide
theorem row_err (u : TypeId) (h : Tryz.prog.typeName? 3 u = some "*errors.errorString") : u = 409 :=
  typeName_ptr_named (nm := "errors.errorString") (by rw [star_err]; kernel_rfl) (by kernel_rfl) (by decide) u (by rw [star_err]; exact h)
theorem cells_err : Tryz.prog.cellsOf 411 = 1 := by kernel_rfl
theorem cells_str : Tryz.prog.cellsOf 9 = 1 := by kernel_rfl
theorem gSyn : Tryz.prog.globalNamed "strconv.ErrSyntax" = some 6 := by kernel_rfl
theorem gSynT : (Tryz.prog.globals[6]?).map (·.type) = some 177 := by kernel_rfl
theorem gRng : Tryz.prog.globalNamed "strconv.ErrRange" = some 7 := by kernel_rfl
theorem gRngT : (Tryz.prog.globals[7]?).map (·.type) = some 177 := by kernel_rfl
/-- What the rows list is what the walks ask for. -/
theorem glob_of_laid {W : World} (h : laidMet Tryz.prog laidHere W) (hs : W.ShapedOpen Tryz.prog) : Glob W := by
  have h2 : laidMet Tryz.prog (("internal/strconv.uint64pow10", Lib.tabData .u64 Lib.pow10Tab) :: laidHere.drop 3) W := by
    rw [← pow_data]
    exact h.tail.tail
  have h7 : laidMet Tryz.prog (("strings.asciiSpace", Lib.tabData .u8 Lib.asciiSpaceTab) :: laidHere.drop 8) W := by
    rw [← spc_data]
    exact h.tail.tail.tail.tail.tail.tail.tail
  refine ⟨?_, ?_, ?_, ?_, ?_⟩
  · exact cell_of_shapedOpen_int (t := 3) (zero := #[.int .i64 0]) hs (of_decide_eq_true (by kernel_rfl)) (by kernel_rfl) rfl (by kernel_rfl) (by kernel_rfl) Tryz.underlying3
  · exact Lib.tabIs_of_head (g := 5) (by kernel_rfl) (by kernel_rfl) Tryz.underlying399 Tryz.underlying315 (by kernel_rfl) (by kernel_rfl) h2
  · exact Lib.tabIs_of_head (g := 0) (by kernel_rfl) (by kernel_rfl) Tryz.underlying124 Tryz.underlying5 (by kernel_rfl) (by kernel_rfl) h7
  · obtain ⟨a, s, hv, _⟩ := laid_sentinel h.tail.tail.tail.tail.tail gSyn gSynT Tryz.underlying177 row_err Tryz.underlying409 Tryz.underlying411 rfl rfl Tryz.underlying9 cells_err cells_str
    exact ⟨_, _, hv⟩
  · obtain ⟨a, s, hv, _⟩ := laid_sentinel h.tail.tail.tail.tail gRng gRngT Tryz.underlying177 row_err Tryz.underlying409 Tryz.underlying411 rfl rfl Tryz.underlying9 cells_err cells_str
    exact ⟨_, _, hv⟩
theorem size_of_shaped {W : World} (hs : W.ShapedOpen Tryz.prog) : 11 ≤ W.heap.size := by
  have hr : (((begin Tryz.prog (fun _ _ => 0) default).world.heap[10]?).bind Obj.row?).isSome = true := by kernel_rfl
  obtain ⟨⟨zero, t⟩, hz⟩ := Option.isSome_iff_exists.1 hr
  obtain ⟨cs, h, _⟩ := hs.1 10 zero t (of_decide_eq_true (by kernel_rfl)) hz
  have := (Array.getElem?_eq_some_iff.1 h).1
  omega
theorem Ext.below' {w w' : World} (h : Ext Nope w w') : Below w.heap.size w w' := ⟨h.os, h.tape, h.output, h.size, fun k hk => h.block k hk (fun z => z)⟩
theorem bounds_i64 {x : Int} (h : (Lit.int .i64 x).wf = true) : i64 x := by
  unfold i64
  simpa [Lit.wf, IntKind.min, IntKind.max, IntKind.signed, IntKind.bits] using h
theorem cells22 : Tryz.prog.cellsOf 22 = 2 := by kernel_rfl
theorem cells3 : Tryz.prog.cellsOf 3 = 1 := by kernel_rfl
theorem arr2 {cs : Array Value} (h : cs.size = 2) : ∃ a b, cs = #[a, b] := by
  obtain ⟨l⟩ := cs
  match l, h with
  | [a, b], _ => exact ⟨a, b, rfl⟩
set_option maxRecDepth 100000 in
/-- A point. -/
theorem open_at {H : Type} {enc : TypeId × Value → H} {W : World} {base b0 : Nat} {spare : Nat → Bool} {held : Bool} {v : Value} {d : DataW H} {p : List MemPlace} (hv : Value.okWide Tryz.prog W .any b0 22 v) (h : DataW.Trod enc Tryz.prog W base spare held 22 v d p) : ∃ a b : Int, i64 a ∧ i64 b ∧ v = .agg #[.int .i64 a, .int .i64 b] := by
  simp only [Value.okWide, Tryz.underlying22] at hv
  obtain ⟨cs, rfl, hsz, _⟩ := hv
  obtain ⟨c0, c1, rfl⟩ := arr2 (hsz.trans cells22)
  obtain ⟨fuel, hf⟩ := h
  obtain ⟨xs, m, _, _, _, hx, hi⟩ := DataW.trod_array Tryz.underlying22 hf
  match xs, hx with
  | [y0, y1], _ =>
    have h0 := hi 0 (by omega)
    have h1 := hi 1 (by omega)
    simp [Value.cells, cells3] at h0 h1
    obtain ⟨a, e0, _, w0⟩ := DataW.trod_int Tryz.underlying3 h0
    obtain ⟨b, e1, _, w1⟩ := DataW.trod_int Tryz.underlying3 h1
    simp at e0 e1
    subst e0 e1
    exact ⟨a, b, bounds_i64 w0, bounds_i64 w1, rfl⟩
end Go.Proofs.YtajebdpalnpjdaaGreatDoor
