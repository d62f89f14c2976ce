/-
  How calls are read.
-/
import Derived.Test.YtmmcadbkmfjcbaaDoorG0
import Derived.Test.YtmmcadbkmfjcbaaDoorK5
namespace Go.Proofs.YtmmcadbkmfjcbaaDoor
open Go.ChangeShapes Go.WideShapes Go.ChangeAt Go.RowKit Go.Joins Go.Deep

theorem trod_five {H : Type} {enc : TypeId × Value → H} {P : Program} {w : World} {base : Nat} {spare : Nat → Bool} {held : Bool} {t : TypeId} {f0 f1 f2 f3 f4 : Field} {fuel : Nat} {cs : List Value} {x : DataW H × List MemPlace} (ht : P.underlying t = some (.struct #[f0, f1, f2, f3, f4])) (h : DataW.trod enc P w base spare held fuel t cs = some x) :
    ∃ y0 y1 y2 y3 y4 n, DataW.trod enc P w base spare held n f0.type ((cs.drop f0.offset).take (P.cellsOf f0.type)) = some y0 ∧ DataW.trod enc P w base spare held n f1.type ((cs.drop f1.offset).take (P.cellsOf f1.type)) = some y1 ∧ DataW.trod enc P w base spare held n f2.type ((cs.drop f2.offset).take (P.cellsOf f2.type)) = some y2 ∧ DataW.trod enc P w base spare held n f3.type ((cs.drop f3.offset).take (P.cellsOf f3.type)) = some y3 ∧ DataW.trod enc P w base spare held n f4.type ((cs.drop f4.offset).take (P.cellsOf f4.type)) = some y4 := by
  obtain ⟨xs, n, _, rfl, hl, hlen, hf⟩ := DataW.trod_struct ht h
  match xs, hlen with
  | [y0, y1, y2, y3, y4], _ => exact ⟨y0, y1, y2, y3, y4, n, by simpa using hf 0 f0 rfl, by simpa using hf 1 f1 rfl, by simpa using hf 2 f2 rfl, by simpa using hf 3 f3 rfl, by simpa using hf 4 f4 rfl⟩

theorem list_cons {n : Nat} {l : List Value} (h : l.length = n + 1) : ∃ v t, l = v :: t ∧ t.length = n := by
  cases l with
  | nil => simp at h
  | cons v t => exact ⟨v, t, rfl, by simpa using h⟩
theorem list11 {l : List Value} (h : l.length = 11) : ∃ v0 v1 v2 v3 v4 v5 v6 v7 v8 v9 v10, l = [v0, v1, v2, v3, v4, v5, v6, v7, v8, v9, v10] := by
  obtain ⟨v0, l0, rfl, h1⟩ := list_cons (n := 10) h
  obtain ⟨v1, l1, rfl, h2⟩ := list_cons (n := 9) h1
  obtain ⟨v2, l2, rfl, h3⟩ := list_cons (n := 8) h2
  obtain ⟨v3, l3, rfl, h4⟩ := list_cons (n := 7) h3
  obtain ⟨v4, l4, rfl, h5⟩ := list_cons (n := 6) h4
  obtain ⟨v5, l5, rfl, h6⟩ := list_cons (n := 5) h5
  obtain ⟨v6, l6, rfl, h7⟩ := list_cons (n := 4) h6
  obtain ⟨v7, l7, rfl, h8⟩ := list_cons (n := 3) h7
  obtain ⟨v8, l8, rfl, h9⟩ := list_cons (n := 2) h8
  obtain ⟨v9, l9, rfl, h10⟩ := list_cons (n := 1) h9
  obtain ⟨v10, l10, rfl, h11⟩ := list_cons (n := 0) h10
  obtain rfl := List.eq_nil_of_length_eq_zero h11
  exact ⟨v0, v1, v2, v3, v4, v5, v6, v7, v8, v9, v10, rfl⟩

theorem open_calls {H : Type} {enc : TypeId × Value → H} {W : World} {base b0 : Nat} {spare : Nat → Bool} {held : Bool} {v : Value} {d : DataW H} {p : List MemPlace} (hv : Value.okWide Tryd.prog W .any b0 23 v) (h : DataW.Trod enc Tryd.prog W base spare held 23 v d p) :
    ∃ a len cap, v = .slice a len cap ∧ CallsAt W a len ∧ len ≤ maxLen := by
  obtain ⟨a, len, cap, rfl⟩ := okWide_slice Tryd.underlying23 hv
  obtain ⟨fuel, hf⟩ := h
  rcases open_slice Tryd.underlying23 hf with ⟨hcs, _⟩ | ⟨x, l, c, m, n, D, Pl, hcs, _, hl, hm, hmm, _, hx⟩
  · simp [Value.cells] at hcs
    obtain ⟨rfl, rfl, rfl⟩ := hcs
    exact ⟨_, _, _, rfl, .inl rfl, by simp⟩
  · simp [Value.cells] at hcs
    obtain ⟨rfl, rfl, rfl⟩ := hcs
    refine ⟨_, _, _, rfl, ?_, by omega⟩
    by_cases h0 : len = 0
    · exact .inl h0
    right
    have key : ∀ k, k < len → ∃ (what q0 q1 q2 q3 fl : Int) (c : R) (v : Value) (xs : List Nat), (0 ≤ what ∧ what ≤ 255) ∧ (0 ≤ q0 ∧ q0 ≤ 255) ∧ (0 ≤ q1 ∧ q1 ≤ 255) ∧ (0 ≤ q2 ∧ q2 ≤ 255) ∧ (0 ≤ q3 ∧ q3 ≤ 255) ∧ (-9223372036854775808 ≤ fl ∧ fl ≤ 9223372036854775807) ∧ c.i64 ∧ Reads W v xs ∧ U64 xs ∧
        ∀ j u, [Value.int .u8 what, .int .u8 q0, .int .u8 q1, .int .u8 q2, .int .u8 q3, .int .i64 c.x, .int .i64 c.y, .int .i64 c.w, .int .i64 c.h, v, .int .i64 fl][j]? = some u → W.cell? ((x.add (k * 11)).add j) = some u := by
      intro k hk
      have hlm : len ≤ m := by rw [hmm]; split <;> omega
      obtain ⟨cs', h1, h2⟩ := hx k (by omega)
      rw [cells34] at h1
      obtain ⟨y0, y1, y2, y3, y4, n', k0, k1, k2, k3, k4⟩ := trod_five Tryd.underlying34 h2
      obtain ⟨_, hl3, hc3⟩ := World.cells?_some h1
      obtain ⟨v0, v1, v2, v3, v4, v5, v6, v7, v8, v9, v10, rfl⟩ := list11 hl3
      simp [cells5, cells3, cells29, cells31, cells32] at k0 k1 k2 k3 k4
      obtain ⟨a0, e0, _, w0⟩ := DataW.trod_int Tryd.underlying5 k0
      obtain ⟨a4, e4, _, w4⟩ := DataW.trod_int Tryd.underlying3 k4
      obtain ⟨b0', b1', b2', b3', m0, m1, m2, m3, e1⟩ := bytes4_of_trod k1
      obtain ⟨c, hc, e2⟩ := rect_of_trod k2
      obtain ⟨vv, xs, e3, r3, u3⟩ := rows_of_trod k3
      simp at e0 e1 e2 e3 e4
      subst e0 e3 e4
      obtain ⟨rfl, rfl, rfl, rfl⟩ := e1
      obtain ⟨rfl, rfl, rfl, rfl⟩ := e2
      refine ⟨a0, b0', b1', b2', b3', a4, c, _, xs, bounds_u8 w0, m0, m1, m2, m3, bounds_i64 w4, hc, r3, u3, fun j u hj => ?_⟩
      have hj11 := (List.getElem?_eq_some_iff.1 hj).1
      have := hc3 j (by simpa using hj11)
      rw [hj] at this
      exact this
    obtain ⟨b, off, spot⟩ := x
    obtain ⟨what, q0, q1, q2, q3, fl, c, v, xs, _, _, _, _, _, _, _, _, _, q⟩ := key 0 (by omega)
    have q00 := q 0 (.int .u8 what) rfl
    have hspot : spot = none := by simpa [Addr.add] using World.cell?_spot q00
    subst hspot
    refine ⟨b, off, rfl, ?_, fun k hk => ?_⟩
    · rw [add_at, add_at] at q00
      exact World.block_lt_of_cell? _ _ q00
    · obtain ⟨what, q0, q1, q2, q3, fl, c, v, xs, h1, h2, h3, h4, h5, h6, h7, h8, h9, q⟩ := key k hk
      refine ⟨what, q0, q1, q2, q3, fl, c, v, xs, h1, h2, h3, h4, h5, h6, h7, h8, h9, fun j u hj => ?_⟩
      have := q j u hj
      rw [add_at, add_at] at this
      exact this
end Go.Proofs.YtmmcadbkmfjcbaaDoor
