/-
  How two bytes are read.
-/
import Derived.Test.YtkloaadaicklfaaO0
namespace Go.Proofs.Ytkloaadaicklfaa
open Go.ChangeShapes Go.WideShapes Go.ChangeAt Go.RowKit Go.Joins Go.Deep

theorem cells49 : Try.prog.cellsOf 49 = 2 := by kernel_rfl
theorem open_pair {H : Type} {enc : TypeId × Value → H} {W : World} {base b0 : Nat} {spare : Nat → Bool} {held : Bool} {v : Value} {d : DataW H} {p : List MemPlace} (hv : Value.okWide Try.prog W .any b0 49 v) (h : DataW.Trod enc Try.prog W base spare held 49 v d p) : ∃ a b : Int, (0 ≤ a ∧ a ≤ 255) ∧ (0 ≤ b ∧ b ≤ 255) ∧ v = .agg #[.int .u8 a, .int .u8 b] := by
  simp only [Value.okWide, Try.underlying49] at hv
  obtain ⟨cs, rfl, hsz, _⟩ := hv
  obtain ⟨c0, c1, rfl⟩ := array2 (hsz.trans cells49)
  obtain ⟨fuel, hf⟩ := h
  obtain ⟨xs, m, _, _, _, hx, hi⟩ := DataW.trod_array Try.underlying49 hf
  match xs, hx with
  | [y0, y1], _ =>
    have h0 := hi 0 (by omega)
    have h1 := hi 1 (by omega)
    simp [Value.cells, cells5] at h0 h1
    obtain ⟨a, e0, _, w0⟩ := DataW.trod_int Try.underlying5 h0
    obtain ⟨b, e1, _, w1⟩ := DataW.trod_int Try.underlying5 h1
    simp at e0 e1
    subst e0 e1
    exact ⟨a, b, bounds_u8 w0, bounds_u8 w1, rfl⟩
end Go.Proofs.Ytkloaadaicklfaa
