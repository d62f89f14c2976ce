/-
  How the arguments of the statements are read: acts, a key, two bytes.
-/
import Derived.Test.YtkloaadaicklfaaRows
import Derived.Test.YtkloaadaicklfaaP0
import Derived.ProofKit
import Derived.OpenShut
import Derived.ChangeOld
import Derived.Below
import Derived.Lib.SmallJoins
import Derived.Deep.Slices
import Derived.Deep.Strs
namespace Go.Proofs.Ytkloaadaicklfaa
open Go.ChangeShapes Go.WideShapes Go.ChangeAt Go.RowKit Go.Joins Go.Deep

theorem Ext.below' {w w' : World} (h : Ext Nope w w') : Below w.heap.size w w' := ⟨h.os, h.tape, h.output, h.size, fun k hk => h.block k hk (fun z => z)⟩
theorem cells37 : Try.prog.cellsOf 37 = 3 := by kernel_rfl
theorem cells5 : Try.prog.cellsOf 5 = 1 := by kernel_rfl
theorem cells3' : Try.prog.cellsOf 3 = 1 := by kernel_rfl

theorem open_acts {H : Type} {enc : TypeId × Value → H} {W : World} {base b0 : Nat} {spare : Nat → Bool} {held : Bool} {v : Value} {d : DataW H} {p : List MemPlace} (hv : Value.okWide Try.prog W .any b0 22 v) (h : DataW.Trod enc Try.prog W base spare held 22 v d p) :
    ∃ a len cap, v = .slice a len cap ∧ ActsAt W a len ∧ len ≤ maxLen := by
  obtain ⟨a, len, cap, rfl⟩ := okWide_slice Try.underlying22 hv
  obtain ⟨fuel, hf⟩ := h
  rcases open_slice Try.underlying22 hf with ⟨hcs, _⟩ | ⟨x, l, c, m, n, D, Pl, hcs, _, hl, hm, hmm, _, hx⟩
  · simp [Value.cells] at hcs
    obtain ⟨rfl, rfl, rfl⟩ := hcs
    exact ⟨_, _, _, rfl, .inl rfl, by simp⟩
  · simp [Value.cells] at hcs
    obtain ⟨rfl, rfl, rfl⟩ := hcs
    refine ⟨_, _, _, rfl, ?_, by omega⟩
    by_cases h0 : len = 0
    · exact .inl h0
    right
    have key : ∀ k, k < len → ∃ wh nn s, (0 ≤ wh ∧ wh ≤ 255) ∧ (0 ≤ nn ∧ nn ≤ 255) ∧ (-9223372036854775808 ≤ s ∧ s ≤ 9223372036854775807) ∧
        W.cell? ((x.add (k * 3)).add 0) = some (.int .u8 wh) ∧ W.cell? ((x.add (k * 3)).add 1) = some (.int .u8 nn) ∧ W.cell? ((x.add (k * 3)).add 2) = some (.int .i64 s) := by
      intro k hk
      have hlm : len ≤ m := by rw [hmm]; split <;> omega
      obtain ⟨cs', h1, h2⟩ := hx k (by omega)
      rw [cells37] at h1
      obtain ⟨y0, y1, y2, n', _, _, k0, k1, k2⟩ := trod_struct3 Try.underlying37 h2
      obtain ⟨_, hl3, hc3⟩ := World.cells?_some h1
      match cs', hl3 with
      | [v0, v1, v2], _ =>
        simp [cells5, cells3'] at k0 k1 k2
        obtain ⟨a0, e0, _, w0⟩ := DataW.trod_int Try.underlying5 k0
        obtain ⟨a1, e1, _, w1⟩ := DataW.trod_int Try.underlying5 k1
        obtain ⟨a2, e2, _, w2⟩ := DataW.trod_int Try.underlying3 k2
        simp at e0 e1 e2
        subst e0 e1 e2
        exact ⟨a0, a1, a2, bounds_u8 w0, bounds_u8 w1, bounds_i64 w2, hc3 0 (by omega), hc3 1 (by omega), hc3 2 (by omega)⟩
    obtain ⟨b, off, spot⟩ := x
    obtain ⟨_, _, _, _, _, _, q0, _, _⟩ := key 0 (by omega)
    have hspot : spot = none := by simpa [Addr.add] using World.cell?_spot q0
    subst hspot
    have hadd : ∀ j, Addr.add ⟨b, off, none⟩ j = ⟨b, off + j, none⟩ := fun j => by unfold Addr.add; split <;> simp_all
    refine ⟨b, off, rfl, ?_, fun k hk => ?_⟩
    · rw [hadd, Addr.add, if_pos rfl] at q0
      exact World.block_lt_of_cell? _ _ q0
    · obtain ⟨wh, nn, s, b1, b2, b3, c0, c1, c2⟩ := key k hk
      rw [hadd, Addr.add, if_pos rfl] at c0
      rw [hadd, Addr.add, if_neg (by omega)] at c1 c2
      exact ⟨wh, nn, s, b1, b2, b3, c0, c1, c2⟩

end Go.Proofs.Ytkloaadaicklfaa
