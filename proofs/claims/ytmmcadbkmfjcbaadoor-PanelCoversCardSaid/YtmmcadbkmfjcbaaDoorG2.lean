/-
  The table of math/bits: what the rows list, and what the walks ask for.
-/
import Derived.Test.YtmmcadbkmfjcbaaDoorG0
import Derived.LaidLaws
import Derived.Handed
namespace Go.Proofs.YtmmcadbkmfjcbaaDoor
open Go.ChangeShapes Go.WideShapes Go.ChangeAt Go.RowKit Go.Joins Go.Deep

theorem own33 : ownKnob Tryd.prog.godebug = none := by kernel_rfl
theorem laidOut33 : laidOutB Tryd.prog = true := by kernel_rfl
theorem tabNamed : Tryd.prog.globalNamed "math/bits.deBruijn64tab" = some 0 := by kernel_rfl
theorem tabType : (Tryd.prog.globals[0]?).map (·.type) = some 97 := by kernel_rfl
theorem cells97 : Tryd.prog.cellsOf 97 = 64 := by kernel_rfl
def laidHere : List (String × DataW Unit) := [("math/bits.deBruijn64tab", Rows.laid_math_bits_deBruijn64tab)]
def tabData : List (DataW Unit) := Lib.deBruijn64tab.map fun n : Nat => .lit (.int .u8 (n : Int))
theorem laid_data : (Rows.laid_math_bits_deBruijn64tab : DataW Unit) = .agg tabData := by kernel_rfl
theorem tab_length : Lib.deBruijn64tab.length = 64 := by kernel_rfl

theorem tab_of_laid {W : World} (h : laidMet Tryd.prog laidHere W) : Tab W := by
  obtain ⟨ps, ⟨g, t, cs, fuel, p, q, hg, ht, hvar, hd, _, _⟩, _⟩ := h
  obtain rfl := Option.some.inj (tabNamed.symm.trans hg)
  obtain rfl := Option.some.inj (tabType.symm.trans ht)
  obtain ⟨xs, m, _, hx, hl, hxl, hi⟩ := DataW.trod_array Tryd.underlying97 hd
  rw [laid_data] at hx
  have hx1 : tabData = xs.map (·.1) := by
    have := congrArg Prod.fst hx
    simpa using this
  intro j hj
  rw [tab_length] at hj
  have h1 := hi j hj
  rw [cells5, Nat.mul_one] at h1
  rw [cells97] at hl
  have hcj : j < cs.size := by simpa using (show j < cs.toList.length by omega)
  have h2 : (cs.toList.drop j).take 1 = [cs[j]] := by
    rw [List.drop_eq_getElem_cons (by simpa using hcj)]
    simp
  rw [h2] at h1
  have hxj : j < xs.length := by omega
  rw [List.getElem?_eq_getElem hxj] at h1
  obtain ⟨n, e0, e1, _⟩ := DataW.trod_int Tryd.underlying5 h1
  simp at e0
  have h3 : tabData[j]? = some (.lit (.int .u8 n)) := by
    rw [hx1, List.getElem?_map, List.getElem?_eq_getElem hxj, e1]; rfl
  have h4 : tabData[j]? = some (.lit (.int .u8 (Lib.deBruijn64tab.getD j 0))) := by
    unfold tabData
    rw [List.getElem?_map, List.getElem?_eq_getElem (by rw [tab_length]; exact hj), List.getD_eq_getElem?_getD, List.getElem?_eq_getElem (by rw [tab_length]; exact hj)]
    rfl
  rw [h3] at h4
  have h5 : n = (Lib.deBruijn64tab.getD j 0 : Int) := by simpa using h4
  have h6 := World.var?_cell hg hvar j
  rw [show cs[j]? = some cs[j] from Array.getElem?_eq_getElem hcj, e0, h5] at h6
  exact h6

def tabCells : Array Value := (Lib.deBruijn64tab.map fun n : Nat => Value.int .u8 (n : Int)).toArray
/-- A world that meets the condition. -/
noncomputable def laidWorld (os : Os) : World :=
  let w0 := World.holding Tryd.prog os ⟨#[], #[], []⟩
  { w0 with heap := w0.heap.modify 0 fun
      | .cells _ t frozen => .cells tabCells t frozen
      | o => o }
theorem laid_met (os : Os) (args : Array Value) : laidMet Tryd.prog laidHere ((laidWorld os).forCall (fun _ _ => 0) ⟨#[], args, []⟩).memory :=
  laidMet_of_run' 8 (by kernel_rfl) (by kernel_rfl)
end Go.Proofs.YtmmcadbkmfjcbaaDoor
