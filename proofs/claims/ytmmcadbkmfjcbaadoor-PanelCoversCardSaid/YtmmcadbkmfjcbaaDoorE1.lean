/-
  Panels: New, Fail, Pixels, Updates; the program's and the reference's.
-/
import Derived.Test.YtmmcadbkmfjcbaaDoorE0
namespace Go.Proofs.YtmmcadbkmfjcbaaDoor
open Go.RowKit
attribute [local go_sem] alloc_drewN setCell_drewN

abbrev panCells (p : Pan) (rv : Value) : Array Value := #[.int .i64 (p.w : Int), rv, .bool p.failing, .int .i64 p.left, .int .i64 (p.many : Int)]
abbrev refCells (p : Ref) (rv : Value) : Array Value := #[.int .i64 (p.w : Int), rv, .int .i64 p.left, .int .i64 (p.many : Int)]
/-- A panel at block b. -/
structure PanAt (W : World) (base b : Nat) (rv : Value) (p : Pan) : Prop where
  cells : W.heap[b]? = some (.cells (panCells p rv) 70 (0, 0))
  rows : RowsAt W base rv p.rows
  base : base ≤ b
  apart : rv.ownBlock ≠ some b
structure RefAt (W : World) (base b : Nat) (rv : Value) (p : Ref) : Prop where
  cells : W.heap[b]? = some (.cells (refCells p rv) 74 (0, 0))
  rows : RowsAt W base rv p.rows
  base : base ≤ b
  apart : rv.ownBlock ≠ some b
/-- The blocks of a panel. -/
def Foot (b : Nat) (rv : Value) (k : Nat) : Prop := k = b ∨ rv.ownBlock = some k
theorem PanAt.ext {W W' : World} {S : Nat → Prop} {base b : Nat} {rv : Value} {p : Pan} (h : PanAt W base b rv p) (e : Ext S W W') (hs : ∀ k, Foot b rv k → ¬ S k) : PanAt W' base b rv p :=
  ⟨(e.block b (lt_of_heap h.cells) (hs b (.inl rfl))).trans h.cells, own_ext h.rows e (fun g hg => hs g (.inr hg)), h.base, h.apart⟩
theorem RefAt.ext {W W' : World} {S : Nat → Prop} {base b : Nat} {rv : Value} {p : Ref} (h : RefAt W base b rv p) (e : Ext S W W') (hs : ∀ k, Foot b rv k → ¬ S k) : RefAt W' base b rv p :=
  ⟨(e.block b (lt_of_heap h.cells) (hs b (.inl rfl))).trans h.cells, own_ext h.rows e (fun g hg => hs g (.inr hg)), h.base, h.apart⟩
theorem PanAt.foot {W : World} {base b : Nat} {rv : Value} {p : Pan} (h : PanAt W base b rv p) : ∀ k, Foot b rv k → base ≤ k ∧ k < W.heap.size := fun k hk => by
  rcases hk with rfl | hk
  · exact ⟨h.base, lt_of_heap h.cells⟩
  · exact World.ownsRow.lt h.rows k hk
theorem RefAt.foot {W : World} {base b : Nat} {rv : Value} {p : Ref} (h : RefAt W base b rv p) : ∀ k, Foot b rv k → base ≤ k ∧ k < W.heap.size := fun k hk => by
  rcases hk with rfl | hk
  · exact ⟨h.base, lt_of_heap h.cells⟩
  · exact World.ownsRow.lt h.rows k hk
def NewPan (w : World) (n h : Nat) (e : Ending) (w' : World) : Prop := ∃ b rv, e = .returned (ptr b) ∧ PanAt w' w.heap.size b rv ⟨n, List.replicate h 0, false, 0, 0⟩ ∧ Ext Nope w w'
def NewRef (w : World) (n h : Nat) (e : Ending) (w' : World) : Prop := ∃ b rv, e = .returned (ptr b) ∧ RefAt w' w.heap.size b rv ⟨n, List.replicate h 0, -1, 0⟩ ∧ Ext Nope w w'

theorem new_made (W : World) (n : Nat) (hn : n ≤ 100000) (u : Obj) : RowsAt ((W.alloc (.cells (madeCells #[.int .u64 0] n) 63)).alloc u) W.heap.size (.slice (some ⟨W.heap.size, 0, none⟩) n n) (List.replicate n 0) :=
  own_ext (made_rows W n hn) ((Ext.refl Nope _).alloc _) (fun _ _ z => z)

section
attribute [local go_sem ↓] run_mn run_mx
/-- panel.New -/
theorem new_calls (n h : Nat) (w : World) (n1 : 1 ≤ n) (n2 : n ≤ 64) (h1 : 1 ≤ h) (h2 : h ≤ 64) : Calls Tryd.prog 12 #[.int .i64 n, .int .i64 h] w (NewPan w n h) := by
  have hmn : decide (mnI n h < 1) = false := decide_eq_false (by rw [mnI_eq]; omega)
  have hmx : decide (64 < mxI n h) = false := decide_eq_false (by rw [mxI_eq]; omega)
  have hmk := fun W' => made_all W' h (by omega)
  go_enter Tryd.func12, Tryd.ntmps12
  go_wp2
  go_ret
  exact ⟨w.heap.size + 1, _, rfl, ⟨heap_alloc_at _ _ _ (by simp), new_made w h (by omega) _, by omega, by simp [Value.ownBlock]⟩, ((Ext.refl _ _).alloc _).alloc _⟩
theorem new_none (n h : Int) (w : World) (hb : ¬ (1 ≤ n ∧ n ≤ 64 ∧ 1 ≤ h ∧ h ≤ 64)) : Calls Tryd.prog 12 #[.int .i64 n, .int .i64 h] w fun e w' => e = .returned (.pointer none) ∧ w = w' := by
  by_cases h0 : mnI n h < 1
  · have hmn : decide (mnI n h < 1) = true := decide_eq_true h0
    clear hb
    go_enter Tryd.func12, Tryd.ntmps12
    go_wp2
    go_ret
    exact ⟨rfl, rfl⟩
  · have hmn : decide (mnI n h < 1) = false := decide_eq_false h0
    have hmx : decide (64 < mxI n h) = true := decide_eq_true (by rw [mxI_eq]; rw [mnI_eq] at h0; omega)
    clear hb
    go_enter Tryd.func12, Tryd.ntmps12
    go_wp2
    go_ret
    exact ⟨rfl, rfl⟩
end
/-- abugidaref33.New -/
theorem rnew_calls (n h : Nat) (w : World) (n1 : 1 ≤ n) (n2 : n ≤ 64) (h1 : 1 ≤ h) (h2 : h ≤ 64) : Calls Tryd.prog 13 #[.int .i64 n, .int .i64 h] w (NewRef w n h) := by
  have hmk := fun W' => made_all W' h (by omega)
  go_enter Tryd.func13, Tryd.ntmps13
  go_wp2
  go_ret
  exact ⟨w.heap.size + 1, _, rfl, ⟨heap_alloc_at _ _ _ (by simp), new_made w h (by omega) _, by omega, by simp [Value.ownBlock]⟩, ((Ext.refl _ _).alloc _).alloc _⟩

/-- panel.Updates -/
theorem updates_calls {w : World} {base b : Nat} {rv : Value} {p : Pan} (h : PanAt w base b rv p) : Calls Tryd.prog 18 #[ptr b] w fun e w' => e = .returned (.int .i64 (p.many : Int)) ∧ w = w' := by
  have c := cell_of_blk h.cells 4
  go_enter Tryd.func18, Tryd.ntmps18
  go_wp2
  go_ret
  exact ⟨rfl, rfl⟩
theorem updates_nil (w : World) : Calls Tryd.prog 18 #[.pointer none] w fun e w' => e = .returned (.int .i64 0) ∧ w = w' := by
  go_enter Tryd.func18, Tryd.ntmps18
  go_wp2
  go_ret
  exact ⟨rfl, rfl⟩
theorem rupdates_calls {w : World} {base b : Nat} {rv : Value} {p : Ref} (h : RefAt w base b rv p) : Calls Tryd.prog 19 #[ptr b] w fun e w' => e = .returned (.int .i64 (p.many : Int)) ∧ w = w' := by
  have c := cell_of_blk h.cells 3
  go_enter Tryd.func19, Tryd.ntmps19
  go_wp2
  go_ret
  exact ⟨rfl, rfl⟩
end Go.Proofs.YtmmcadbkmfjcbaaDoor
