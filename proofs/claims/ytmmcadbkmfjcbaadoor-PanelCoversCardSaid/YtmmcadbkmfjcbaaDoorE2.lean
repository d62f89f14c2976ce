/-
  Panels: Fail, Pixels, power.
-/
import Derived.Test.YtmmcadbkmfjcbaaDoorE1
namespace Go.Proofs.YtmmcadbkmfjcbaaDoor
open Go.RowKit
attribute [local go_sem] alloc_drewN setCell_drewN

/-- One cell of a panel is written. -/
theorem PanAt.put {W : World} {base b : Nat} {rv : Value} {p q : Pan} (h : PanAt W base b rv p) (k : Nat) (v : Value) (hq : (panCells p rv).setIfInBounds k v = panCells q rv) (hr : q.rows = p.rows) : PanAt (W.setCell ⟨b, k, none⟩ v) base b rv q :=
  ⟨by have := heap_setCell_eq W b k v _ _ _ h.cells; rw [hq] at this; exact this, by rw [hr]; exact own_ext h.rows ((Ext.refl (fun i => i = b) W).setCell b k (fun _ => rfl) v) (fun g hg z => h.apart (by rw [hg, z])), h.base, h.apart⟩
theorem RefAt.put {W : World} {base b : Nat} {rv : Value} {p q : Ref} (h : RefAt W base b rv p) (k : Nat) (v : Value) (hq : (refCells p rv).setIfInBounds k v = refCells q rv) (hr : q.rows = p.rows) : RefAt (W.setCell ⟨b, k, none⟩ v) base b rv q :=
  ⟨by have := heap_setCell_eq W b k v _ _ _ h.cells; rw [hq] at this; exact this, by rw [hr]; exact own_ext h.rows ((Ext.refl (fun i => i = b) W).setCell b k (fun _ => rfl) v) (fun g hg z => h.apart (by rw [hg, z])), h.base, h.apart⟩
theorem foot_put {W W' : World} {b : Nat} {rv : Value} (h : Ext (Foot b rv) W W') (k : Nat) (v : Value) : Ext (Foot b rv) W (W'.setCell ⟨b, k, none⟩ v) := h.setCell b k (fun _ => .inl rfl) v

/-- panel.Fail -/
theorem fail_calls {w : World} {base b : Nat} {rv : Value} {p : Pan} (h : PanAt w base b rv p) (n : Int) : Calls Tryd.prog 31 #[ptr b, .int .i64 n] w fun e w' => e = .returned (.tuple #[]) ∧ PanAt w' base b rv (failA p n) ∧ Ext (Foot b rv) w w' := by
  have c0 : w.cell? ⟨b, 0, none⟩ = some (.int .i64 (p.w : Int)) := cell_of_blk h.cells 0
  have c2 : w.cell? ⟨b, 2, none⟩ = some (.bool p.failing) := cell_of_blk h.cells 2
  have c3 : w.cell? ⟨b, 3, none⟩ = some (.int .i64 p.left) := cell_of_blk h.cells 3
  have f2 : w.frozen? ⟨b, 2, none⟩ = false := free_of_blk h.cells 2
  have f3 : w.frozen? ⟨b, 3, none⟩ = false := free_of_blk h.cells 3
  have hb := lt_of_heap h.cells
  have H := toHid h
  clear h
  by_cases hw : 0 < p.w
  · have hp : decide ((0 : Int) < (p.w : Int)) = true := decide_eq_true (by omega)
    have HF := toHid (show failA p n = ⟨p.w, p.rows, decide (0 ≤ n), n, p.many⟩ by unfold failA; rw [if_pos hw])
    have hp2 : decide (0 < p.w) = true := decide_eq_true hw
    go_enter Tryd.func31, Tryd.ntmps31
    go_wp2
    go_end0
    refine ⟨rfl, ?_, foot_put (foot_put (Ext.refl _ _) _ _) _ _⟩
    rw [HF.out]
    exact (H.out.put (q := ⟨p.w, p.rows, decide (0 ≤ n), p.left, p.many⟩) 2 _ rfl rfl).put 3 _ rfl rfl
  · have hp : decide ((0 : Int) < (p.w : Int)) = false := decide_eq_false (by omega)
    have HF := toHid (show failA p n = p by unfold failA; rw [if_neg hw])
    have hp2 : decide (0 < p.w) = false := decide_eq_false hw
    clear hw
    go_enter Tryd.func31, Tryd.ntmps31
    go_wp2
    go_end0
    exact ⟨rfl, by rw [HF.out]; exact H.out, Ext.refl _ _⟩
theorem fail_nil (w : World) (n : Int) : Calls Tryd.prog 31 #[.pointer none, .int .i64 n] w fun e w' => e = .returned (.tuple #[]) ∧ w = w' := by
  go_enter Tryd.func31, Tryd.ntmps31
  go_wp2
  go_end0
  exact ⟨rfl, rfl⟩
/-- abugidaref33.none -/
theorem none_calls {w : World} {base b : Nat} {rv : Value} {p : Ref} (h : RefAt w base b rv p) : Calls Tryd.prog 38 #[ptr b] w fun e w' => e = .returned (.bool (decide (p.w = 0))) ∧ w = w' := by
  have c0 : w.cell? ⟨b, 0, none⟩ = some (.int .i64 (p.w : Int)) := cell_of_blk h.cells 0
  clear h
  go_enter Tryd.func38, Tryd.ntmps38
  go_wp2
  go_ret
  refine ⟨ret_bool ?_, rfl⟩
  rw [Bool.eq_iff_iff]
  simp
section
attribute [local go_sem ↓] run_mn run_mx
/-- abugidaref33.Fail -/
theorem rfail_calls {w : World} {base b : Nat} {rv : Value} {p : Ref} (h : RefAt w base b rv p) (n : Int) : Calls Tryd.prog 35 #[ptr b, .int .i64 n] w fun e w' => e = .returned (.tuple #[]) ∧ RefAt w' base b rv (rfailA p n) ∧ Ext (Foot b rv) w w' := by
  have hn := none_calls h
  have c2 : w.cell? ⟨b, 2, none⟩ = some (.int .i64 p.left) := cell_of_blk h.cells 2
  have f2 : w.frozen? ⟨b, 2, none⟩ = false := free_of_blk h.cells 2
  have hb := lt_of_heap h.cells
  have H := toHid h
  by_cases hw : p.w = 0
  · rw [decide_eq_true hw] at hn
    have HN := toHid hn
    have HF := toHid (show rfailA p n = p by unfold rfailA; rw [if_neg (by simpa using hw)])
    clear h hn hw
    go_enter Tryd.func35, Tryd.ntmps35
    go_wp2_with (go_at_call 38; refine HN.out.mono ?_; rintro e w' ⟨rfl, rfl⟩)
    go_end0
    exact ⟨rfl, by rw [HF.out]; exact H.out, Ext.refl _ _⟩
  · rw [decide_eq_false hw] at hn
    have HN := toHid hn
    have HF := toHid (show rfailA p n = ⟨p.w, p.rows, mxI n (-1), p.many⟩ by unfold rfailA; rw [if_pos hw])
    clear h hn hw
    go_enter Tryd.func35, Tryd.ntmps35
    go_wp2_with (go_at_call 38; refine HN.out.mono ?_; rintro e w' ⟨rfl, rfl⟩)
    go_end0
    refine ⟨rfl, ?_, foot_put (Ext.refl _ _) _ _⟩
    rw [HF.out]
    exact H.out.put 2 _ rfl rfl
/-- panel.power -/
def powerA (p : Pan) : Bool × Pan := if p.failing then (decide (0 ≤ mxI (p.left - 1) (-1)), ⟨p.w, p.rows, p.failing, mxI (p.left - 1) (-1), p.many⟩) else (true, p)
theorem power_calls {w : World} {base b : Nat} {rv : Value} {p : Pan} (h : PanAt w base b rv p) (hl : p.failing = true → -1 ≤ p.left) (h2 : p.left ≤ 9223372036854775807) : Calls Tryd.prog 51 #[ptr b] w fun e w' => e = .returned (.bool (powerA p).1) ∧ PanAt w' base b rv (powerA p).2 ∧ Ext (Foot b rv) w w' := by
  have c2 : w.cell? ⟨b, 2, none⟩ = some (.bool p.failing) := cell_of_blk h.cells 2
  have c3 : w.cell? ⟨b, 3, none⟩ = some (.int .i64 p.left) := cell_of_blk h.cells 3
  have f3 : w.frozen? ⟨b, 3, none⟩ = false := free_of_blk h.cells 3
  have hb := lt_of_heap h.cells
  have H := toHid h
  clear h
  cases hf : p.failing with
  | true =>
    have hl1 := hl hf
    rw [hf] at c2
    have HF := toHid (show powerA p = (decide (0 ≤ mxI (p.left - 1) (-1)), ⟨p.w, p.rows, p.failing, mxI (p.left - 1) (-1), p.many⟩) by unfold powerA; rw [if_pos hf])
    clear hf hl
    go_enter Tryd.func51, Tryd.ntmps51
    go_wp2
    go_ret
    rw [HF.out]
    refine ⟨rfl, ?_, foot_put (foot_put (Ext.refl _ _) _ _) _ _⟩
    exact (H.out.put (q := ⟨p.w, p.rows, p.failing, p.left - 1, p.many⟩) 3 _ rfl rfl).put 3 _ rfl rfl
  | false =>
    rw [hf] at c2
    have HF := toHid (show powerA p = (true, p) by unfold powerA; rw [if_neg (by rw [hf]; decide)])
    clear hf hl
    go_enter Tryd.func51, Tryd.ntmps51
    go_wp2
    go_ret
    rw [HF.out]
    exact ⟨rfl, H.out, Ext.refl _ _⟩
end
/-- panel.Pixels -/
theorem pixels_calls {w : World} {base b : Nat} {rv : Value} {p : Pan} (h : PanAt w base b rv p) (hl : p.rows.length ≤ 64) : Calls Tryd.prog 16 #[ptr b] w (CopyOf w p.rows) := by
  have c1 : w.cell? ⟨b, 1, none⟩ = some rv := cell_of_blk h.cells 1
  have HC := toHid (clone_calls (RowsAt.reads h.rows) (by omega))
  clear h
  go_enter Tryd.func16, Tryd.ntmps16
  go_wp2_with (go_at_call 37; refine HC.out.mono ?_; rintro e w' ⟨u, rfl, hr, he⟩)
  go_ret
  exact ⟨_, rfl, hr, he⟩
theorem pixels_nil (w : World) : Calls Tryd.prog 16 #[.pointer none] w (CopyOf w []) := by
  go_enter Tryd.func16, Tryd.ntmps16
  go_wp2
  go_ret
  exact ⟨_, rfl, World.ownsRow_nil _ _ _ _, Ext.refl _ _⟩
/-- abugidaref33.Pixels -/
theorem rpixels_calls {w : World} {base b : Nat} {rv : Value} {p : Ref} (h : RefAt w base b rv p) (hw : p.w ≠ 0) (hl : p.rows.length ≤ 64) : Calls Tryd.prog 17 #[ptr b] w (CopyOf w p.rows) := by
  have hn := none_calls h
  rw [decide_eq_false hw] at hn
  have HN := toHid hn
  have H := toHid h
  have c1 : w.cell? ⟨b, 1, none⟩ = some rv := cell_of_blk h.cells 1
  have hr := RowsAt.reads h.rows
  have HR := toHid hr
  have hl2 : p.rows.length ≤ 100000 := by omega
  have hb := lt_of_heap h.cells
  obtain ⟨av, cap, hv, _⟩ := hr
  rw [hv] at c1
  have HV := toHid hv
  clear h hn hw hv
  go_enter Tryd.func17, Tryd.ntmps17
  rw [HV.out] at HR
  go_wp2_with (first | (go_at_call 38; refine HN.out.mono ?_; rintro e w' ⟨rfl, rfl⟩) | (at_builtin; refine wpList_take (by rfl) (fun K hK => ?_); refine wp_joinU (.tmp 7) (.tmp 11) rfl w.heap.size rfl (heap_alloc_new w _) _ rfl p.rows (HR.out.ext0 ((Ext.refl _ _).alloc _)) hl2 w.heap.size (Nat.le_refl _) ?_))
  intro v' w' hr he _ _ hv
  refine hK _ _ ?_
  clear HR hv
  go_wp2
  go_ret
  exact ⟨_, rfl, hr, ext0 ((Ext.refl _ _).alloc _) he⟩
end Go.Proofs.YtmmcadbkmfjcbaaDoor
