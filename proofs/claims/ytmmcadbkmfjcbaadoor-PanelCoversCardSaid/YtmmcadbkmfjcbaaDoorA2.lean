/-
  Rectangles: their cells, and the small functions on them.
-/
import Derived.Test.YtmmcadbkmfjcbaaDoorA1
import Derived.Deep.QuietTactic
import Derived.BigQuiet
namespace Go.Proofs.YtmmcadbkmfjcbaaDoor
open Go.RowKit
attribute [local go_sem] alloc_drewN setCell_drewN

structure R where
  (x y w h : Int)
  deriving DecidableEq
@[reducible] def R.val (c : R) : Value := .agg #[.int .i64 c.x, .int .i64 c.y, .int .i64 c.w, .int .i64 c.h]
abbrev rCells (c : R) : Array Value := #[.int .i64 c.x, .int .i64 c.y, .int .i64 c.w, .int .i64 c.h]
/-- Numbers of 64 bits with a sign. -/
def R.i64 (c : R) : Prop := (-9223372036854775808 ≤ c.x ∧ c.x ≤ 9223372036854775807) ∧ (-9223372036854775808 ≤ c.y ∧ c.y ≤ 9223372036854775807) ∧ (-9223372036854775808 ≤ c.w ∧ c.w ≤ 9223372036854775807) ∧ (-9223372036854775808 ≤ c.h ∧ c.h ≤ 9223372036854775807)
/-- Whether a rectangle is within a width and a height. -/
def inB (c : R) (w h : Int) : Bool := decide (0 ≤ c.x ∧ 0 ≤ c.y ∧ 1 ≤ c.w ∧ 1 ≤ c.h ∧ c.x + c.w ≤ w ∧ c.y + c.h ≤ h)
theorem inB_true {c : R} {w h : Int} (e : 0 ≤ c.x ∧ 0 ≤ c.y ∧ 1 ≤ c.w ∧ 1 ≤ c.h ∧ c.x + c.w ≤ w ∧ c.y + c.h ≤ h) : inB c w h = true := decide_eq_true e
theorem inB_false {c : R} {w h : Int} (e : ¬ (0 ≤ c.x ∧ 0 ≤ c.y ∧ 1 ≤ c.w ∧ 1 ≤ c.h ∧ c.x + c.w ≤ w ∧ c.y + c.h ≤ h)) : inB c w h = false := decide_eq_false e

theorem rect_calls (x y ww h : Int) (w : World) : Calls Tryd.prog 33 #[.int .i64 x, .int .i64 y, .int .i64 ww, .int .i64 h] w fun e w' => e = .returned (R.val ⟨x, y, ww, h⟩) ∧ Ext Nope w w' := by
  go_enter Tryd.func33, Tryd.ntmps33
  go_wp2
  exact bodyPost_ret (v := R.val ⟨x, y, ww, h⟩) (by simp [results, Tryd.results33, go_sem]) rfl ⟨rfl, (Ext.refl _ _).alloc _⟩

theorem inB_last {c : R} {w h : Int} (e : 0 ≤ c.x ∧ 0 ≤ c.y ∧ 1 ≤ c.w ∧ 1 ≤ c.h ∧ c.x + c.w ≤ w ∧ c.y ≤ h) : decide (c.h ≤ h - c.y) = inB c w h := by
  unfold inB
  rw [Bool.eq_iff_iff]
  simp only [decide_eq_true_eq]
  omega

set_option maxHeartbeats 2000000 in
theorem within_calls (c : R) (ww h : Int) (w : World) (hc : c.i64) (w0 : 0 ≤ ww) (w1 : ww ≤ 9223372036854775807) (h0 : 0 ≤ h) (h1 : h ≤ 9223372036854775807) : Calls Tryd.prog 45 #[c.val, .int .i64 ww, .int .i64 h] w fun e w' => e = .returned (.bool (inB c ww h)) ∧ Ext Nope w w' := by
  obtain ⟨⟨a1, a2⟩, ⟨b1, b2⟩, ⟨c1, c2⟩, ⟨d1, d2⟩⟩ := hc
  go_enter Tryd.func45, Tryd.ntmps45
  go_wp2
  all_goals
    go_ret
    refine ⟨ret_bool ?_, (Ext.refl _ _).alloc _⟩
    first
      | exact (inB_false (by omega)).symm
      | exact inB_last (by omega)
set_option maxHeartbeats 2000000 in
theorem Within_calls (c : R) (ww h : Int) (w : World) (hc : c.i64) (w0 : 0 ≤ ww) (w1 : ww ≤ 9223372036854775807) (h0 : 0 ≤ h) (h1 : h ≤ 9223372036854775807) : Calls Tryd.prog 32 #[c.val, .int .i64 ww, .int .i64 h] w fun e w' => e = .returned (.bool (inB c ww h)) ∧ Ext Nope w w' := by
  obtain ⟨⟨a1, a2⟩, ⟨b1, b2⟩, ⟨c1, c2⟩, ⟨d1, d2⟩⟩ := hc
  go_enter Tryd.func32, Tryd.ntmps32
  go_wp2
  all_goals
    go_ret
    refine ⟨ret_bool ?_, (Ext.refl _ _).alloc _⟩
    first
      | exact (inB_false (by omega)).symm
      | exact inB_last (by omega)

/-- The builtins min and max, kept whole in a walk. -/
def mnI (x y : Int) : Int := if y < x then y else x
def mxI (x y : Int) : Int := if x < y then y else x
theorem mnI_eq (x y : Int) : mnI x y = min x y := by unfold mnI; split <;> omega
theorem mxI_eq (x y : Int) : mxI x y = max x y := by unfold mxI; split <;> omega
theorem run_mn {P : Program} {w : World} (ts : Array TypeId) (t : TypeId) (k k' : IntKind) (x y : Int) : (Builtin.min_ ts t #[.int k x, .int k' y]).run P w = .ok (.int k (mnI x y)) w := run_min_int2 w ts t k k' x y
theorem run_mx {P : Program} {w : World} (ts : Array TypeId) (t : TypeId) (k k' : IntKind) (x y : Int) : (Builtin.max_ ts t #[.int k x, .int k' y]).run P w = .ok (.int k (mxI x y)) w := run_max_int2 w ts t k k' x y

/-- The least rectangle that contains two. -/
def bothR (a b : R) : R := ⟨mnI a.x b.x, mnI a.y b.y, mxI (a.x + a.w) (b.x + b.w) - mnI a.x b.x, mxI (a.y + a.h) (b.y + b.h) - mnI a.y b.y⟩
def areaR (c : R) : Int := c.w * c.h
def R.small (c : R) : Prop := (0 ≤ c.x ∧ c.x ≤ 1000) ∧ (0 ≤ c.y ∧ c.y ≤ 1000) ∧ (0 ≤ c.w ∧ c.w ≤ 1000) ∧ (0 ≤ c.h ∧ c.h ≤ 1000)
theorem ret_r {a b : R} (h : a = b) : Ending.returned a.val = .returned b.val := by rw [h]
theorem mn_bounds {x y : Int} (h1 : 0 ≤ x ∧ x ≤ 1000) (h2 : 0 ≤ y ∧ y ≤ 1000) : 0 ≤ mnI x y ∧ mnI x y ≤ 1000 := by unfold mnI; split <;> omega
theorem mx_bounds {x y : Int} (h1 : 0 ≤ x ∧ x ≤ 2000) (h2 : 0 ≤ y ∧ y ≤ 2000) : 0 ≤ mxI x y ∧ mxI x y ≤ 2000 := by unfold mxI; split <;> omega
section
attribute [local go_sem ↓] run_mn run_mx
set_option maxHeartbeats 2000000 in
theorem Both_calls (a b : R) (w : World) (ha : a.small) (hb : b.small) : Calls Tryd.prog 43 #[a.val, b.val] w fun e w' => e = .returned (bothR a b).val ∧ Ext Nope w w' := by
  obtain ⟨⟨a1, a2⟩, ⟨a3, a4⟩, ⟨a5, a6⟩, ⟨a7, a8⟩⟩ := ha
  obtain ⟨⟨b1, b2⟩, ⟨b3, b4⟩, ⟨b5, b6⟩, ⟨b7, b8⟩⟩ := hb
  obtain ⟨m1, m2⟩ := mn_bounds (x := a.x) (y := b.x) ⟨a1, a2⟩ ⟨b1, b2⟩
  obtain ⟨m3, m4⟩ := mn_bounds (x := a.y) (y := b.y) ⟨a3, a4⟩ ⟨b3, b4⟩
  obtain ⟨n1, n2⟩ := mx_bounds (x := a.x + a.w) (y := b.x + b.w) (by omega) (by omega)
  obtain ⟨n3, n4⟩ := mx_bounds (x := a.y + a.h) (y := b.y + b.h) (by omega) (by omega)
  go_enter Tryd.func43, Tryd.ntmps43
  go_wp2
  exact bodyPost_ret (v := (bothR a b).val) (by simp [results, Tryd.results43, go_sem, bothR]) rfl ⟨rfl, (((Ext.refl _ _).alloc _).alloc _).alloc _⟩
end
theorem Area_calls (c : R) (w : World) (ha : c.small) : Calls Tryd.prog 44 #[c.val] w fun e w' => e = .returned (.int .i64 (areaR c)) ∧ Ext Nope w w' := by
  obtain ⟨⟨a1, a2⟩, ⟨a3, a4⟩, ⟨a5, a6⟩, ⟨a7, a8⟩⟩ := ha
  have h1 : 0 ≤ c.w * c.h := Int.mul_nonneg a5 a7
  have h2 : c.w * c.h ≤ 1000000 := by
    have := Int.mul_le_mul a6 a8 a7 (by omega : (0 : Int) ≤ 1000)
    omega
  go_enter Tryd.func44, Tryd.ntmps44
  go_wp2
  go_ret
  exact ⟨rfl, (Ext.refl _ _).alloc _⟩

/-- Rectangles as cells. -/
def rectCells (rs : List R) : List Value := rs.flatMap fun o => [.int .i64 o.x, .int .i64 o.y, .int .i64 o.w, .int .i64 o.h]
theorem rectCells_append (a b : List R) : rectCells (a ++ b) = rectCells a ++ rectCells b := by simp [rectCells]
theorem rectCells_one (o : R) : rectCells [o] = [.int .i64 o.x, .int .i64 o.y, .int .i64 o.w, .int .i64 o.h] := rfl
theorem rectCells_length (a : List R) : (rectCells a).length = a.length * 4 := by
  induction a with
  | nil => rfl
  | cons o a ih => simp only [rectCells, List.flatMap_cons, List.length_append, List.length_cons, List.length_nil] at ih ⊢; omega
theorem rectCells_oneCell (a : List R) : ∀ u ∈ rectCells a, u.oneCell' = true := by
  intro u hu
  obtain ⟨x, _, hx⟩ := List.mem_flatMap.1 hu
  simp at hx
  rcases hx with rfl | rfl | rfl | rfl <;> rfl
theorem info31 : (Tryd.prog.info? 31).map (fun i => (i.zero, i.size, i.bytes)) = some (some (.agg #[.int .i64 0, .int .i64 0, .int .i64 0, .int .i64 0]), 4, 32) := by kernel_rfl
/-- A slice of rectangles of the call's own. -/
def RectsAt (w : World) (base : Nat) (v : Value) (rs : List R) : Prop := w.ownsRow base 31 4 v rs.length (rectCells rs)
theorem rect_cells {w : World} {base g n cap : Nat} {rs a b : List R} {o : R} (h : RectsAt w base (.slice (some ⟨g, 0, none⟩) n cap) rs) (hk : rs = a ++ o :: b) :
    w.cell? ⟨g, a.length * 4, none⟩ = some (.int .i64 o.x) ∧ w.cell? ⟨g, a.length * 4 + 1, none⟩ = some (.int .i64 o.y) ∧ w.cell? ⟨g, a.length * 4 + 2, none⟩ = some (.int .i64 o.w) ∧ w.cell? ⟨g, a.length * 4 + 3, none⟩ = some (.int .i64 o.h) := by
  subst hk
  have hc : ∀ j u, j < 4 → (rectCells [o])[j]? = some u → w.cell? ⟨g, a.length * 4 + j, none⟩ = some u := by
    intro j u hj hu
    refine own_cell h ?_
    rw [rectCells_append, List.getElem?_append_right (by rw [rectCells_length]; omega), rectCells_length, Nat.add_sub_cancel_left]
    rw [show o :: b = [o] ++ b from rfl, rectCells_append, List.getElem?_append_left (by rw [rectCells_length]; simpa using hj)]
    exact hu
  exact ⟨hc 0 _ (by omega) rfl, hc 1 _ (by omega) rfl, hc 2 _ (by omega) rfl, hc 3 _ (by omega) rfl⟩
theorem RectsAt.snoc {w : World} {base n : Nat} {v : Value} {rs : List R} {o : R} (h : w.ownsRow base 31 4 v n (rectCells rs ++ rectCells [o])) (hn : n = rs.length + 1) : RectsAt w base v (rs ++ [o]) := by
  subst hn
  show w.ownsRow base 31 4 v (rs ++ [o]).length (rectCells (rs ++ [o]))
  rw [rectCells_append, List.length_append]
  exact h
theorem rCells_at {w : World} {b : Nat} {o : R} {T : TypeId} {fz : Nat × Nat} (h : w.heap[b]? = some (.cells (rCells o) T fz)) : ∀ (j : Nat) (u : Value), (rectCells [o])[j]? = some u → w.cell? (Addr.add ⟨b, 0, none⟩ j) = some u := by
  intro j u hj
  rw [rectCells_one] at hj
  have hc := fun i => cell_of_blk h i
  match j, hj with
  | 0, hj => rw [show Addr.add ⟨b, 0, none⟩ 0 = at_ b 0 from rfl, hc]; exact hj
  | 1, hj => rw [show Addr.add ⟨b, 0, none⟩ 1 = at_ b 1 from rfl, hc]; exact hj
  | 2, hj => rw [show Addr.add ⟨b, 0, none⟩ 2 = at_ b 2 from rfl, hc]; exact hj
  | 3, hj => rw [show Addr.add ⟨b, 0, none⟩ 3 = at_ b 3 from rfl, hc]; exact hj
theorem r_cells {w : World} {X : Nat} {o : R} {T : TypeId} {fz : Nat × Nat} (h : w.heap[X]? = some (.cells (rCells o) T fz)) : w.cell? ⟨X, 0, none⟩ = some (.int .i64 o.x) ∧ w.cell? ⟨X, 1, none⟩ = some (.int .i64 o.y) ∧ w.cell? ⟨X, 2, none⟩ = some (.int .i64 o.w) ∧ w.cell? ⟨X, 3, none⟩ = some (.int .i64 o.h) :=
  ⟨cell_of_blk h 0, cell_of_blk h 1, cell_of_blk h 2, cell_of_blk h 3⟩

end Go.Proofs.YtmmcadbkmfjcbaaDoor
