/-
  How the arguments of the statements are read: rows, rectangles, bytes.
-/
import Derived.Test.YtmmcadbkmfjcbaaDoorRows
import Derived.Test.YtmmcadbkmfjcbaaDoorF1
import Derived.ProofKit
import Derived.OpenShut
import Derived.ChangeOld
import Derived.Below
import Derived.Lib.SmallJoins
import Derived.Deep.Slices
import Derived.Deep.Strs
import Derived.Laws.IdiomArrays
import Derived.ChangeSame
import Derived.ChangeVars
import Derived.JoinedOf
import Derived.LaidLaws
namespace Go.Proofs.YtmmcadbkmfjcbaaDoor
open Go.ChangeShapes Go.WideShapes Go.ChangeAt Go.RowKit Go.Joins Go.Deep

theorem Ext.below' {w w' : World} (h : Ext Nope w w') : Below w.heap.size w w' := ⟨h.os, h.tape, h.output, h.size, fun k hk => h.block k hk (fun z => z)⟩
theorem cells63 : Tryd.prog.cellsOf 63 = 1 := by kernel_rfl
theorem cells3 : Tryd.prog.cellsOf 3 = 1 := by kernel_rfl
theorem cells5 : Tryd.prog.cellsOf 5 = 1 := by kernel_rfl
theorem cells31 : Tryd.prog.cellsOf 31 = 4 := by kernel_rfl
theorem cells29 : Tryd.prog.cellsOf 29 = 4 := by kernel_rfl
theorem cells22 : Tryd.prog.cellsOf 22 = 2 := by kernel_rfl
theorem cells41 : Tryd.prog.cellsOf 41 = 2 := by kernel_rfl
theorem cells32 : Tryd.prog.cellsOf 32 = 1 := by kernel_rfl
theorem cells53 : Tryd.prog.cellsOf 53 = 5 := by kernel_rfl
theorem cells34 : Tryd.prog.cellsOf 34 = 11 := by kernel_rfl

theorem add_at (b off j : Nat) : Addr.add ⟨b, off, none⟩ j = ⟨b, off + j, none⟩ := by unfold Addr.add; split <;> simp_all
theorem bounds_u64 {x : Int} (h : Lit.wf (.int .u64 x) = true) : 0 ≤ x ∧ x < 18446744073709551616 := by
  simp only [Lit.wf, Bool.and_eq_true, decide_eq_true_eq] at h
  obtain ⟨h1, h2⟩ := h
  have e1 : IntKind.u64.min = 0 := by decide
  have e2 : IntKind.u64.max = 18446744073709551615 := by decide
  omega
/-- A slice of rows that is read. -/
theorem rows_of_trod {H : Type} {enc : TypeId × Value → H} {W : World} {base fuel : Nat} {spare : Nat → Bool} {held : Bool} {cs : List Value} {y : DataW H × List MemPlace} (hf : DataW.trod enc Tryd.prog W base spare held fuel 32 cs = some y) :
    ∃ v xs, cs = [v] ∧ Reads W v xs ∧ U64 xs := by
  rcases open_slice Tryd.underlying32 hf with ⟨hcs, _⟩ | ⟨x, len, cap, m, n, D, Pl, hcs, _, hl, hm, hmm, _, hx⟩
  · exact ⟨_, [], hcs, ⟨none, 0, rfl, Nat.le_refl _, by omega, fun h => by simp at h⟩, U64.nil⟩
  · have hlm : len ≤ m := by rw [hmm]; split <;> omega
    have key : ∀ k, k < len → ∃ z : Nat, z < 18446744073709551616 ∧ W.cell? (x.add k) = some (u64 z) := by
      intro k hk
      obtain ⟨cs', h1, h2⟩ := hx k (by omega)
      rw [cells63, Nat.mul_one] at h1
      obtain ⟨_, hl1, hc1⟩ := World.cells?_some h1
      match cs', hl1 with
      | [v0], _ =>
        obtain ⟨a0, e0, _, w0⟩ := DataW.trod_int Tryd.underlying63 h2
        have hb := bounds_u64 w0
        simp at e0
        subst e0
        have h3 := hc1 0 (by omega)
        rw [show Addr.add (Addr.add x k) 0 = Addr.add x k from if_pos rfl] at h3
        refine ⟨a0.toNat, by omega, ?_⟩
        have h4 : u64 a0.toNat = .int .u64 a0 := by unfold u64; rw [show ((a0.toNat : Nat) : Int) = a0 by omega]
        rw [h4]
        simpa using h3
    let f : Nat → Nat := fun i => if h : i < len then Classical.choose (key i h) else 0
    have hfs : ∀ i, i < len → f i < 18446744073709551616 ∧ W.cell? (x.add i) = some (u64 (f i)) := fun i h => by
      have := Classical.choose_spec (key i h)
      simp only [f, dif_pos h]
      exact this
    have hlen : ((List.range len).map f).length = len := by simp
    refine ⟨_, (List.range len).map f, hcs, ⟨some x, cap, by rw [hlen], by rw [hlen]; exact hl, by unfold maxLen at hm; omega, fun h0 => ?_⟩, fun z hz => ?_⟩
    · rw [hlen] at h0
      obtain ⟨b, off, spot⟩ := x
      have q0 := (hfs 0 h0).2
      have hspot : spot = none := by simpa [Addr.add] using World.cell?_spot q0
      subst hspot
      refine ⟨b, off, rfl, ?_, fun k z hk => ?_⟩
      · rw [add_at] at q0
        exact World.block_lt_of_cell? _ _ q0
      · have hk1 := (List.getElem?_eq_some_iff.1 hk).1
        rw [hlen] at hk1
        have h5 := (hfs k hk1).2
        rw [add_at] at h5
        rw [List.getElem?_map, List.getElem?_range hk1] at hk
        simp only [Option.map_some, Option.some.injEq] at hk
        rw [hk] at h5
        exact h5
    · obtain ⟨i, hi, rfl⟩ := List.mem_map.1 hz
      exact (hfs i (List.mem_range.1 hi)).1
theorem open_rows {H : Type} {enc : TypeId × Value → H} {W : World} {base b0 : Nat} {spare : Nat → Bool} {held : Bool} {v : Value} {d : DataW H} {p : List MemPlace} (hv : Value.okWide Tryd.prog W .any b0 32 v) (h : DataW.Trod enc Tryd.prog W base spare held 32 v d p) : ∃ xs, Reads W v xs ∧ U64 xs := by
  obtain ⟨a, len, cap, rfl⟩ := okWide_slice Tryd.underlying32 hv
  obtain ⟨fuel, hf⟩ := h
  obtain ⟨v, xs, hcs, h1, h2⟩ := rows_of_trod hf
  simp [Value.cells] at hcs
  subst hcs
  exact ⟨xs, h1, h2⟩
/-- A rectangle. -/
theorem rect_of_trod {H : Type} {enc : TypeId × Value → H} {W : World} {base fuel : Nat} {spare : Nat → Bool} {held : Bool} {c0 c1 c2 c3 : Value} {y : DataW H × List MemPlace} (hf : DataW.trod enc Tryd.prog W base spare held fuel 31 [c0, c1, c2, c3] = some y) :
    ∃ c : R, c.i64 ∧ [c0, c1, c2, c3] = [Value.int .i64 c.x, .int .i64 c.y, .int .i64 c.w, .int .i64 c.h] := by
  obtain ⟨y0, y1, y2, y3, n, _, _, h0, h1, h2, h3⟩ := trod_struct4 Tryd.underlying31 hf
  simp [cells3] at h0 h1 h2 h3
  obtain ⟨a0, e0, _, w0⟩ := DataW.trod_int Tryd.underlying3 h0
  obtain ⟨a1, e1, _, w1⟩ := DataW.trod_int Tryd.underlying3 h1
  obtain ⟨a2, e2, _, w2⟩ := DataW.trod_int Tryd.underlying3 h2
  obtain ⟨a3, e3, _, w3⟩ := DataW.trod_int Tryd.underlying3 h3
  simp at e0 e1 e2 e3
  subst e0 e1 e2 e3
  exact ⟨⟨a0, a1, a2, a3⟩, ⟨bounds_i64 w0, bounds_i64 w1, bounds_i64 w2, bounds_i64 w3⟩, rfl⟩
theorem open_rect {H : Type} {enc : TypeId × Value → H} {W : World} {base b0 : Nat} {spare : Nat → Bool} {held : Bool} {v : Value} {d : DataW H} {p : List MemPlace} (hv : Value.okWide Tryd.prog W .any b0 31 v) (h : DataW.Trod enc Tryd.prog W base spare held 31 v d p) : ∃ c : R, c.i64 ∧ v = c.val := by
  obtain ⟨cs, rfl, hsz⟩ := okWide_struct Tryd.underlying31 hv
  obtain ⟨c0, c1, c2, c3, rfl⟩ := array4 (hsz.trans cells31)
  obtain ⟨fuel, hf⟩ := h
  obtain ⟨c, hc, e⟩ := rect_of_trod (by simpa [Value.cells] using hf)
  simp at e
  obtain ⟨rfl, rfl, rfl, rfl⟩ := e
  exact ⟨c, hc, rfl⟩
/-- Four bytes, two bytes. -/
theorem bytes4_of_trod {H : Type} {enc : TypeId × Value → H} {W : World} {base fuel : Nat} {spare : Nat → Bool} {held : Bool} {c0 c1 c2 c3 : Value} {y : DataW H × List MemPlace} (hf : DataW.trod enc Tryd.prog W base spare held fuel 29 [c0, c1, c2, c3] = some y) :
    ∃ a b c d : Int, (0 ≤ a ∧ a ≤ 255) ∧ (0 ≤ b ∧ b ≤ 255) ∧ (0 ≤ c ∧ c ≤ 255) ∧ (0 ≤ d ∧ d ≤ 255) ∧ [c0, c1, c2, c3] = [Value.int .u8 a, .int .u8 b, .int .u8 c, .int .u8 d] := by
  obtain ⟨y0, y1, y2, y3, n, _, h0, h1, h2, h3⟩ := trod_array4 Tryd.underlying29 cells5 hf
  obtain ⟨a0, e0, _, w0⟩ := DataW.trod_int Tryd.underlying5 h0
  obtain ⟨a1, e1, _, w1⟩ := DataW.trod_int Tryd.underlying5 h1
  obtain ⟨a2, e2, _, w2⟩ := DataW.trod_int Tryd.underlying5 h2
  obtain ⟨a3, e3, _, w3⟩ := DataW.trod_int Tryd.underlying5 h3
  simp at e0 e1 e2 e3
  subst e0 e1 e2 e3
  exact ⟨a0, a1, a2, a3, bounds_u8 w0, bounds_u8 w1, bounds_u8 w2, bounds_u8 w3, rfl⟩
theorem open_bytes4 {H : Type} {enc : TypeId × Value → H} {W : World} {base b0 : Nat} {spare : Nat → Bool} {held : Bool} {v : Value} {d : DataW H} {p : List MemPlace} (hv : Value.okWide Tryd.prog W .any b0 29 v) (h : DataW.Trod enc Tryd.prog W base spare held 29 v d p) : ∃ a b c d : Int, (0 ≤ a ∧ a ≤ 255) ∧ (0 ≤ b ∧ b ≤ 255) ∧ (0 ≤ c ∧ c ≤ 255) ∧ (0 ≤ d ∧ d ≤ 255) ∧ v = .agg #[.int .u8 a, .int .u8 b, .int .u8 c, .int .u8 d] := by
  simp only [Value.okWide, Tryd.underlying29] at hv
  obtain ⟨cs, rfl, hsz, _⟩ := hv
  obtain ⟨c0, c1, c2, c3, rfl⟩ := array4 (hsz.trans cells29)
  obtain ⟨fuel, hf⟩ := h
  obtain ⟨a, b, c, d, h1, h2, h3, h4, e⟩ := bytes4_of_trod (by simpa [Value.cells] using hf)
  simp at e
  obtain ⟨rfl, rfl, rfl, rfl⟩ := e
  exact ⟨a, b, c, d, h1, h2, h3, h4, rfl⟩
theorem open_pair {H : Type} {enc : TypeId × Value → H} {W : World} {base b0 : Nat} {spare : Nat → Bool} {held : Bool} {v : Value} {d : DataW H} {p : List MemPlace} (hv : Value.okWide Tryd.prog W .any b0 22 v) (h : DataW.Trod enc Tryd.prog W base spare held 22 v d p) : ∃ a b : Int, (0 ≤ a ∧ a ≤ 255) ∧ (0 ≤ b ∧ b ≤ 255) ∧ v = .agg #[.int .u8 a, .int .u8 b] := by
  simp only [Value.okWide, Tryd.underlying22] at hv
  obtain ⟨cs, rfl, hsz, _⟩ := hv
  obtain ⟨c0, c1, rfl⟩ := array2 (hsz.trans cells22)
  obtain ⟨fuel, hf⟩ := h
  obtain ⟨xs, m, _, _, _, hx, hi⟩ := DataW.trod_array Tryd.underlying22 hf
  match xs, hx with
  | [y0, y1], _ =>
    have h0 := hi 0 (by omega)
    have h1 := hi 1 (by omega)
    simp [Value.cells, cells5] at h0 h1
    obtain ⟨a, e0, _, w0⟩ := DataW.trod_int Tryd.underlying5 h0
    obtain ⟨b, e1, _, w1⟩ := DataW.trod_int Tryd.underlying5 h1
    simp at e0 e1
    subst e0 e1
    exact ⟨a, b, bounds_u8 w0, bounds_u8 w1, rfl⟩
/-- Two lists of rows. -/
theorem open_two {H : Type} {enc : TypeId × Value → H} {W : World} {base b0 : Nat} {spare : Nat → Bool} {held : Bool} {v : Value} {d : DataW H} {p : List MemPlace} (hv : Value.okWide Tryd.prog W .any b0 41 v) (h : DataW.Trod enc Tryd.prog W base spare held 41 v d p) : ∃ v1 v2 xs ys, v = .agg #[v1, v2] ∧ Reads W v1 xs ∧ U64 xs ∧ Reads W v2 ys ∧ U64 ys := by
  obtain ⟨cs, rfl, hsz⟩ := okWide_struct Tryd.underlying41 hv
  obtain ⟨c0, c1, rfl⟩ := array2 (hsz.trans cells41)
  obtain ⟨fuel, hf⟩ := h
  obtain ⟨y0, y1, n, _, _, h0, h1⟩ := trod_struct2 Tryd.underlying41 hf
  simp [Value.cells, cells32] at h0 h1
  obtain ⟨v1, xs, e1, r1, u1⟩ := rows_of_trod h0
  obtain ⟨v2, ys, e2, r2, u2⟩ := rows_of_trod h1
  simp at e1 e2
  subst e1 e2
  exact ⟨_, _, xs, ys, rfl, r1, u1, r2, u2⟩
/-- A case. -/
theorem open_case {H : Type} {enc : TypeId × Value → H} {W : World} {base b0 : Nat} {spare : Nat → Bool} {held : Bool} {v : Value} {d : DataW H} {p : List MemPlace} (hv : Value.okWide Tryd.prog W .any b0 53 v) (h : DataW.Trod enc Tryd.prog W base spare held 53 v d p) : ∃ (a b m : Int) (v1 v2 : Value) (xs ys : List Nat), (0 ≤ a ∧ a ≤ 255) ∧ (0 ≤ b ∧ b ≤ 255) ∧ (0 ≤ m ∧ m ≤ 255) ∧ v = .agg #[.int .u8 a, .int .u8 b, v1, v2, .int .u8 m] ∧ Reads W v1 xs ∧ U64 xs ∧ Reads W v2 ys ∧ U64 ys := by
  obtain ⟨cs, rfl, hsz⟩ := okWide_struct Tryd.underlying53 hv
  obtain ⟨l⟩ := cs
  have hl5 : l.length = 5 := by simpa using hsz.trans cells53
  match l, hl5 with
  | [c0, c1, c2, c3, c4], _ =>
    obtain ⟨fuel, hf⟩ := h
    obtain ⟨y0, y1, y2, y3, n, _, _, h0, h1, h2, h3⟩ := trod_struct4 Tryd.underlying53 hf
    simp [Value.cells, cells5, cells41] at h0 h1 h2 h3
    obtain ⟨a0, e0, _, w0⟩ := DataW.trod_int Tryd.underlying5 h0
    obtain ⟨a1, e1, _, w1⟩ := DataW.trod_int Tryd.underlying5 h1
    obtain ⟨a3, e3, _, w3⟩ := DataW.trod_int Tryd.underlying5 h3
    obtain ⟨z0, z1, m, _, _, k0, k1⟩ := trod_struct2 Tryd.underlying41 h2
    simp [cells32] at k0 k1
    obtain ⟨v1, xs, f1, r1, u1⟩ := rows_of_trod k0
    obtain ⟨v2, ys, f2, r2, u2⟩ := rows_of_trod k1
    simp at e0 e1 e3 f1 f2
    subst e0 e1 e3 f1 f2
    exact ⟨a0, a1, a3, _, _, xs, ys, bounds_u8 w0, bounds_u8 w1, bounds_u8 w3, rfl, r1, u1, r2, u2⟩
end Go.Proofs.YtmmcadbkmfjcbaaDoor
