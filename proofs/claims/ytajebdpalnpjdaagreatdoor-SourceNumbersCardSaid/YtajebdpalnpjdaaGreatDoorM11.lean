/-
  source.Parse: line by line.
-/
import Derived.Test.YtajebdpalnpjdaaGreatDoorM10
import Derived.Test.YtajebdpalnpjdaaGreatDoorM06
namespace Go.Proofs.YtajebdpalnpjdaaGreatDoor
open Go.RowKit
attribute [local go_sem] alloc_drewN setCell_drewN

def linesC : List (List UInt8) → List UInt8
  | [] => []
  | l :: r => l ++ 10 :: linesC r
/-- Lines, each with its end, and what stands behind the last one. -/
def textB (ls : List ByteArray) (r : ByteArray) : ByteArray := ⟨(linesC (ls.map fun l => l.data.toList) ++ r.data.toList).toArray⟩
theorem cut_at {x r : List UInt8} {c : UInt8} (h : c ∉ x) : Lib.cut (x ++ c :: r) [c] = (x, r, true) := by
  unfold Lib.cut
  rw [index_at h, if_pos (by omega)]
  have e1 : (x ++ c :: r).take x.length = x := by simp
  have e2 : (x ++ c :: r).drop (x.length + 1) = r := by rw [show x.length + 1 = x.length + 1 from rfl, List.drop_append]; simp
  simp [e1, e2]
theorem cut_not {x : List UInt8} {c : UInt8} (h : c ∉ x) : Lib.cut x [c] = (x, [], false) := by
  unfold Lib.cut
  rw [index_not h, if_neg (by decide)]
theorem cut_line {l : ByteArray} {ls : List ByteArray} {r : ByteArray} {w : World} {m : Int} (hm : w.cell? ⟨1, 0, none⟩ = some (.int .i64 m)) (hl : (10 : UInt8) ∉ l.data.toList) (hs : (textB (l :: ls) r).size ≤ 100000) :
    Calls Tryz.prog 10 #[.string (textB (l :: ls) r), .string ⟨#[10]⟩] w fun e w' => e = .returned (.tuple #[.string l, .string (textB ls r), .bool true]) ∧ Ext Nope w w' := by
  refine (Tryz.strings_Cut (textB (l :: ls) r) ⟨#[10]⟩ m w (by omega) hm).mono ?_
  rintro e w' ⟨rfl, n, rfl⟩
  have hd : (textB (l :: ls) r).data.toList = l.data.toList ++ 10 :: (textB ls r).data.toList := by simp [textB, linesC]
  rw [hd, show (⟨#[10]⟩ : ByteArray).data.toList = [10] from rfl, cut_at hl]
  exact ⟨rfl, (Ext.refl _ _).drewN n⟩
theorem cut_end {r : ByteArray} {w : World} {m : Int} (hm : w.cell? ⟨1, 0, none⟩ = some (.int .i64 m)) (hl : (10 : UInt8) ∉ r.data.toList) (hs : r.size ≤ 100000) :
    Calls Tryz.prog 10 #[.string r, .string ⟨#[10]⟩] w fun e w' => e = .returned (.tuple #[.string r, .string ⟨#[]⟩, .bool false]) ∧ Ext Nope w w' := by
  refine (Tryz.strings_Cut r ⟨#[10]⟩ m w (by omega) hm).mono ?_
  rintro e w' ⟨rfl, n, rfl⟩
  rw [show (⟨#[10]⟩ : ByteArray).data.toList = [10] from rfl, cut_not hl]
  exact ⟨rfl, (Ext.refl _ _).drewN n⟩
theorem textB_size {l : ByteArray} {ls : List ByteArray} {r : ByteArray} : (textB (l :: ls) r).size = l.size + 1 + (textB ls r).size := by
  have h : ∀ b : ByteArray, b.size = b.data.toList.length := fun b => rfl
  rw [h, h, h]
  simp [textB, linesC]
  omega
theorem textB_nil (r : ByteArray) : textB [] r = r := by simp [textB, linesC]
theorem textB_drop (ls : List ByteArray) (r : ByteArray) : ∀ k, (textB (ls.drop k) r).size ≤ (textB ls r).size := by
  induction ls with
  | nil => intro k; simp
  | cons l ls ih =>
    intro k
    cases k with
    | zero => exact Nat.le_refl _
    | succ k => rw [List.drop_succ_cons, textB_size]; have := ih k; omega
theorem textB_len (ls : List ByteArray) (r : ByteArray) : ls.length ≤ (textB ls r).size := by
  induction ls with
  | nil => exact Nat.zero_le _
  | cons l ls ih => rw [textB_size, List.length_cons]; omega
theorem textB_ne (l : ByteArray) (ls : List ByteArray) (r : ByteArray) : ((textB (l :: ls) r).toList == []) = false := by
  rw [ByteArray.toList_eq, beq_eq_false_iff_ne]
  simp [textB, linesC]
/-- The cells of a new reader. -/
def cells0 : List Value := [.string ⟨#[]⟩, .int .i64 0, .slice none 0 0, .slice none 0 0, .int .i64 0, .slice none 0 0, .slice none 0 0, .slice none 0 0, .string ⟨#[]⟩, .slice none 0 0, .slice none 0 0, .string ⟨#[]⟩]
theorem alloc_size1 (w : World) (o : Obj) : (w.alloc o).heap.size = w.heap.size + 1 := by simp
abbrev fontCells : Array Value := #[.string ⟨#[]⟩, .int .i64 0, .slice none 0 0, .slice none 0 0, .int .i64 0, .slice none 0 0, .slice none 0 0, .slice none 0 0, .string ⟨#[]⟩, .slice none 0 0, .slice none 0 0]
def noFont : Value := .agg fontCells
/-- Eleven cells are written. -/
theorem store11 {w : World} {b : Nat} {T : TypeId} {x0 x1 x2 x3 x4 x5 x6 x7 x8 x9 x10 v0 v1 v2 v3 v4 v5 v6 v7 v8 v9 v10 : Value} (h : w.heap[b]? = some (.cells #[x0, x1, x2, x3, x4, x5, x6, x7, x8, x9, x10] T (0, 0))) :
    (((((((((((w.setCell ⟨b, 0, none⟩ v0).setCell ⟨b, 1, none⟩ v1).setCell ⟨b, 2, none⟩ v2).setCell ⟨b, 3, none⟩ v3).setCell ⟨b, 4, none⟩ v4).setCell ⟨b, 5, none⟩ v5).setCell ⟨b, 6, none⟩ v6).setCell ⟨b, 7, none⟩ v7).setCell ⟨b, 8, none⟩ v8).setCell ⟨b, 9, none⟩ v9).setCell ⟨b, 10, none⟩ v10).heap[b]? = some (.cells #[v0, v1, v2, v3, v4, v5, v6, v7, v8, v9, v10] T (0, 0)) ∧ Ext (fun i => i = b) w (((((((((((w.setCell ⟨b, 0, none⟩ v0).setCell ⟨b, 1, none⟩ v1).setCell ⟨b, 2, none⟩ v2).setCell ⟨b, 3, none⟩ v3).setCell ⟨b, 4, none⟩ v4).setCell ⟨b, 5, none⟩ v5).setCell ⟨b, 6, none⟩ v6).setCell ⟨b, 7, none⟩ v7).setCell ⟨b, 8, none⟩ v8).setCell ⟨b, 9, none⟩ v9).setCell ⟨b, 10, none⟩ v10) := by
  have h0 : (w.setCell ⟨b, 0, none⟩ v0).heap[b]? = some (.cells #[v0, x1, x2, x3, x4, x5, x6, x7, x8, x9, x10] T (0, 0)) := heap_setCell_eq w b 0 v0 _ _ _ h
  have h1 : ((w.setCell ⟨b, 0, none⟩ v0).setCell ⟨b, 1, none⟩ v1).heap[b]? = some (.cells #[v0, v1, x2, x3, x4, x5, x6, x7, x8, x9, x10] T (0, 0)) := heap_setCell_eq (w.setCell ⟨b, 0, none⟩ v0) b 1 v1 _ _ _ h0
  have h2 : (((w.setCell ⟨b, 0, none⟩ v0).setCell ⟨b, 1, none⟩ v1).setCell ⟨b, 2, none⟩ v2).heap[b]? = some (.cells #[v0, v1, v2, x3, x4, x5, x6, x7, x8, x9, x10] T (0, 0)) := heap_setCell_eq ((w.setCell ⟨b, 0, none⟩ v0).setCell ⟨b, 1, none⟩ v1) b 2 v2 _ _ _ h1
  have h3 : ((((w.setCell ⟨b, 0, none⟩ v0).setCell ⟨b, 1, none⟩ v1).setCell ⟨b, 2, none⟩ v2).setCell ⟨b, 3, none⟩ v3).heap[b]? = some (.cells #[v0, v1, v2, v3, x4, x5, x6, x7, x8, x9, x10] T (0, 0)) := heap_setCell_eq (((w.setCell ⟨b, 0, none⟩ v0).setCell ⟨b, 1, none⟩ v1).setCell ⟨b, 2, none⟩ v2) b 3 v3 _ _ _ h2
  have h4 : (((((w.setCell ⟨b, 0, none⟩ v0).setCell ⟨b, 1, none⟩ v1).setCell ⟨b, 2, none⟩ v2).setCell ⟨b, 3, none⟩ v3).setCell ⟨b, 4, none⟩ v4).heap[b]? = some (.cells #[v0, v1, v2, v3, v4, x5, x6, x7, x8, x9, x10] T (0, 0)) := heap_setCell_eq ((((w.setCell ⟨b, 0, none⟩ v0).setCell ⟨b, 1, none⟩ v1).setCell ⟨b, 2, none⟩ v2).setCell ⟨b, 3, none⟩ v3) b 4 v4 _ _ _ h3
  have h5 : ((((((w.setCell ⟨b, 0, none⟩ v0).setCell ⟨b, 1, none⟩ v1).setCell ⟨b, 2, none⟩ v2).setCell ⟨b, 3, none⟩ v3).setCell ⟨b, 4, none⟩ v4).setCell ⟨b, 5, none⟩ v5).heap[b]? = some (.cells #[v0, v1, v2, v3, v4, v5, x6, x7, x8, x9, x10] T (0, 0)) := heap_setCell_eq (((((w.setCell ⟨b, 0, none⟩ v0).setCell ⟨b, 1, none⟩ v1).setCell ⟨b, 2, none⟩ v2).setCell ⟨b, 3, none⟩ v3).setCell ⟨b, 4, none⟩ v4) b 5 v5 _ _ _ h4
  have h6 : (((((((w.setCell ⟨b, 0, none⟩ v0).setCell ⟨b, 1, none⟩ v1).setCell ⟨b, 2, none⟩ v2).setCell ⟨b, 3, none⟩ v3).setCell ⟨b, 4, none⟩ v4).setCell ⟨b, 5, none⟩ v5).setCell ⟨b, 6, none⟩ v6).heap[b]? = some (.cells #[v0, v1, v2, v3, v4, v5, v6, x7, x8, x9, x10] T (0, 0)) := heap_setCell_eq ((((((w.setCell ⟨b, 0, none⟩ v0).setCell ⟨b, 1, none⟩ v1).setCell ⟨b, 2, none⟩ v2).setCell ⟨b, 3, none⟩ v3).setCell ⟨b, 4, none⟩ v4).setCell ⟨b, 5, none⟩ v5) b 6 v6 _ _ _ h5
  have h7 : ((((((((w.setCell ⟨b, 0, none⟩ v0).setCell ⟨b, 1, none⟩ v1).setCell ⟨b, 2, none⟩ v2).setCell ⟨b, 3, none⟩ v3).setCell ⟨b, 4, none⟩ v4).setCell ⟨b, 5, none⟩ v5).setCell ⟨b, 6, none⟩ v6).setCell ⟨b, 7, none⟩ v7).heap[b]? = some (.cells #[v0, v1, v2, v3, v4, v5, v6, v7, x8, x9, x10] T (0, 0)) := heap_setCell_eq (((((((w.setCell ⟨b, 0, none⟩ v0).setCell ⟨b, 1, none⟩ v1).setCell ⟨b, 2, none⟩ v2).setCell ⟨b, 3, none⟩ v3).setCell ⟨b, 4, none⟩ v4).setCell ⟨b, 5, none⟩ v5).setCell ⟨b, 6, none⟩ v6) b 7 v7 _ _ _ h6
  have h8 : (((((((((w.setCell ⟨b, 0, none⟩ v0).setCell ⟨b, 1, none⟩ v1).setCell ⟨b, 2, none⟩ v2).setCell ⟨b, 3, none⟩ v3).setCell ⟨b, 4, none⟩ v4).setCell ⟨b, 5, none⟩ v5).setCell ⟨b, 6, none⟩ v6).setCell ⟨b, 7, none⟩ v7).setCell ⟨b, 8, none⟩ v8).heap[b]? = some (.cells #[v0, v1, v2, v3, v4, v5, v6, v7, v8, x9, x10] T (0, 0)) := heap_setCell_eq ((((((((w.setCell ⟨b, 0, none⟩ v0).setCell ⟨b, 1, none⟩ v1).setCell ⟨b, 2, none⟩ v2).setCell ⟨b, 3, none⟩ v3).setCell ⟨b, 4, none⟩ v4).setCell ⟨b, 5, none⟩ v5).setCell ⟨b, 6, none⟩ v6).setCell ⟨b, 7, none⟩ v7) b 8 v8 _ _ _ h7
  have h9 : ((((((((((w.setCell ⟨b, 0, none⟩ v0).setCell ⟨b, 1, none⟩ v1).setCell ⟨b, 2, none⟩ v2).setCell ⟨b, 3, none⟩ v3).setCell ⟨b, 4, none⟩ v4).setCell ⟨b, 5, none⟩ v5).setCell ⟨b, 6, none⟩ v6).setCell ⟨b, 7, none⟩ v7).setCell ⟨b, 8, none⟩ v8).setCell ⟨b, 9, none⟩ v9).heap[b]? = some (.cells #[v0, v1, v2, v3, v4, v5, v6, v7, v8, v9, x10] T (0, 0)) := heap_setCell_eq (((((((((w.setCell ⟨b, 0, none⟩ v0).setCell ⟨b, 1, none⟩ v1).setCell ⟨b, 2, none⟩ v2).setCell ⟨b, 3, none⟩ v3).setCell ⟨b, 4, none⟩ v4).setCell ⟨b, 5, none⟩ v5).setCell ⟨b, 6, none⟩ v6).setCell ⟨b, 7, none⟩ v7).setCell ⟨b, 8, none⟩ v8) b 9 v9 _ _ _ h8
  have h10 : (((((((((((w.setCell ⟨b, 0, none⟩ v0).setCell ⟨b, 1, none⟩ v1).setCell ⟨b, 2, none⟩ v2).setCell ⟨b, 3, none⟩ v3).setCell ⟨b, 4, none⟩ v4).setCell ⟨b, 5, none⟩ v5).setCell ⟨b, 6, none⟩ v6).setCell ⟨b, 7, none⟩ v7).setCell ⟨b, 8, none⟩ v8).setCell ⟨b, 9, none⟩ v9).setCell ⟨b, 10, none⟩ v10).heap[b]? = some (.cells #[v0, v1, v2, v3, v4, v5, v6, v7, v8, v9, v10] T (0, 0)) := heap_setCell_eq ((((((((((w.setCell ⟨b, 0, none⟩ v0).setCell ⟨b, 1, none⟩ v1).setCell ⟨b, 2, none⟩ v2).setCell ⟨b, 3, none⟩ v3).setCell ⟨b, 4, none⟩ v4).setCell ⟨b, 5, none⟩ v5).setCell ⟨b, 6, none⟩ v6).setCell ⟨b, 7, none⟩ v7).setCell ⟨b, 8, none⟩ v8).setCell ⟨b, 9, none⟩ v9) b 10 v10 _ _ _ h9
  exact ⟨h10, (Ext.setCell (S := fun i => i = b) (Ext.setCell (S := fun i => i = b) (Ext.setCell (S := fun i => i = b) (Ext.setCell (S := fun i => i = b) (Ext.setCell (S := fun i => i = b) (Ext.setCell (S := fun i => i = b) (Ext.setCell (S := fun i => i = b) (Ext.setCell (S := fun i => i = b) (Ext.setCell (S := fun i => i = b) (Ext.setCell (S := fun i => i = b) (Ext.setCell (S := fun i => i = b) (Ext.refl _ _) b 0 (fun _ => rfl) _) b 1 (fun _ => rfl) _) b 2 (fun _ => rfl) _) b 3 (fun _ => rfl) _) b 4 (fun _ => rfl) _) b 5 (fun _ => rfl) _) b 6 (fun _ => rfl) _) b 7 (fun _ => rfl) _) b 8 (fun _ => rfl) _) b 9 (fun _ => rfl) _) b 10 (fun _ => rfl) _)⟩
theorem font_cells {w : World} {b : Nat} {T : TypeId} {x0 x1 x2 x3 x4 x5 x6 x7 x8 x9 x10 : Value} (h : w.heap[b]? = some (.cells #[x0, x1, x2, x3, x4, x5, x6, x7, x8, x9, x10] T (0, 0))) : w.cell? ⟨b, 0, none⟩ = some x0 ∧ w.cell? ⟨b, 1, none⟩ = some x1 ∧ w.cell? ⟨b, 2, none⟩ = some x2 ∧ w.cell? ⟨b, 3, none⟩ = some x3 ∧ w.cell? ⟨b, 4, none⟩ = some x4 ∧ w.cell? ⟨b, 5, none⟩ = some x5 ∧ w.cell? ⟨b, 6, none⟩ = some x6 ∧ w.cell? ⟨b, 7, none⟩ = some x7 ∧ w.cell? ⟨b, 8, none⟩ = some x8 ∧ w.cell? ⟨b, 9, none⟩ = some x9 ∧ w.cell? ⟨b, 10, none⟩ = some x10 := by
  refine ⟨?_, ?_, ?_, ?_, ?_, ?_, ?_, ?_, ?_, ?_, ?_⟩ <;> (rw [show ∀ j, (⟨b, j, none⟩ : Addr) = at_ b j from fun _ => rfl, cell_of_blk h]; rfl)
set_option maxRecDepth 100000 in
set_option maxHeartbeats 4000000 in
/-- source.Parse of what has a line that is none. -/
theorem parse_stop {w : World} (G : Glob w) (hg : 11 ≤ w.heap.size) {ls : List ByteArray} {r : ByteArray} (hl : ∀ l ∈ ls, (10 : UInt8) ∉ l.data.toList) (hr : (10 : UInt8) ∉ r.data.toList) (hs : (textB ls r).size ≤ 100000) {K : Nat} (hK : K ≤ ls.length) (hK2 : K = ls.length → K = 0 ∨ r ≠ ⟨#[]⟩)
    {St : Nat → World → Prop} (hSt : ∀ k W W', St k W → Ext Nope W W' → St k W') (h0 : ∀ W, Ext Nope w W → RB W (w.heap.size + 1) cells0 (.slice none 0 0) → St 0 W)
    (hstep : ∀ k l W, k < K → ls[k]? = some l → St k W → Ext Nope w W → Calls Tryz.prog 11 #[ptr (w.heap.size + 1), .string l] W fun e w' => e = .returned (.bool true) ∧ St (k + 1) w' ∧ Ext (fun b => w.heap.size < b) W w')
    (hbad : ∀ l W, ls[K]? = some l → St K W → Ext Nope w W → Calls Tryz.prog 11 #[ptr (w.heap.size + 1), .string l] W fun e w' => e = .returned (.bool false) ∧ Ext (fun b => w.heap.size < b) W w') :
    Calls Tryz.prog 6 #[.string (textB ls r)] w fun e w' => e = .returned (.tuple #[noFont, .int .i64 (K + 1 : Nat), .int .i64 4]) ∧ Ext Nope w w' := by
  have HG := toHid G
  have HL := toHid hl
  have HR := toHid (show _ ∧ _ from ⟨hr, hs⟩)
  have HSt := toHid hSt
  have H0 := toHid h0
  have HS := toHid hstep
  have HB := toHid hbad
  have HK2 := toHid hK2
  obtain ⟨jt, HJ⟩ : ∃ jt, Hid (textB ls r = jt) := ⟨_, rfl⟩
  rw [HJ.out]
  clear G hl hr hs hSt h0 hstep hbad hK2
  go_enter Tryz.func6, Tryz.ntmps6
  go_wp2_with fail
  have e1 : Ext Nope w ((w.alloc (.cells fontCells 36)).alloc (.cells (cells0 ++ [Value.slice none 0 0]).toArray 61)) := ((Ext.refl _ _).alloc _).alloc _
  have b1 : RB ((w.alloc (.cells fontCells 36)).alloc (.cells (cells0 ++ [Value.slice none 0 0]).toArray 61)) (w.heap.size + 1) cells0 (.slice none 0 0) := ⟨heap_alloc_at _ _ _ (alloc_size1 w _).symm, rfl⟩
  have hz1 : ((w.alloc (.cells fontCells 36)).alloc (.cells (cells0 ++ [Value.slice none 0 0]).toArray 61)).heap[w.heap.size]? = some (.cells fontCells 36 (0, 0)) := (heap_alloc_old _ _ _ (by rw [alloc_size1]; exact Nat.lt_succ_self _)).trans (heap_alloc_new w _)
  have H1 := toHid (show _ ∧ _ ∧ _ from ⟨H0.out _ e1 b1, e1, hz1⟩)
  clear e1 b1 hz1 H0
  go_loopw [6, 0] (fun n s wr => ∃ k : Nat, n = .int .i64 ((k : Int) + 1) ∧ s = .string (textB (ls.drop k) r) ∧ k ≤ K ∧ St k wr ∧ Ext Nope w wr ∧ wr.heap[w.heap.size]? = some (.cells fontCells 36 (0, 0))) (fun n _ _ => K + 2 - (intOf n).toNat)
  case atStart => exact ⟨0, rfl, by rw [← HJ.out]; rfl, Nat.zero_le _, H1.out⟩
  case round =>
    obtain ⟨k, rfl, rfl, hk, hSk, hE, hz⟩ := hrel
    rename World => wr
    obtain ⟨m, hm⟩ := (HG.out.ext0 hE).max
    have hsz : (textB (ls.drop k) r).size ≤ 100000 := Nat.le_trans (textB_drop ls r k) HR.out.2
    have HW := toHid (show _ ∧ _ ∧ _ from ⟨hSk, hE, hz⟩)
    clear hSk hE hz
    by_cases hkl : k < ls.length
    · obtain ⟨l, hlk⟩ : ∃ l, ls[k]? = some l := ⟨_, List.getElem?_eq_getElem hkl⟩
      have e : ls.drop k = l :: ls.drop (k + 1) := by rw [List.drop_eq_getElem_cons (List.getElem?_eq_some_iff.1 hlk).1, (List.getElem?_eq_some_iff.1 hlk).2]
      rw [e] at hsz ⊢
      have hne : ((textB (l :: ls.drop (k + 1)) r).toList == []) = false := textB_ne l _ r
      have HCut := toHid (cut_line hm (HL.out l (List.mem_of_getElem? hlk)) hsz)
      clear hsz hm e
      obtain ⟨tt, HT⟩ : ∃ tt, Hid (textB (l :: ls.drop (k + 1)) r = tt) := ⟨_, rfl⟩
      rw [HT.out] at HCut hne ⊢
      obtain ⟨tn, HTN⟩ : ∃ tn, Hid (textB (ls.drop (k + 1)) r = tn) := ⟨_, rfl⟩
      rw [HTN.out] at HCut
      have hlen : ls.length ≤ 100000 := Nat.le_trans (textB_len ls r) HR.out.2
      have s1 : IntKind.i64.wrap ((k : Int) + 1 + 1) = (k : Int) + 1 + 1 := IntWalk.i64_in _ (by omega)
      by_cases hk0 : ((k : Int) = 0)
      all_goals
        go_wp2_with fail
        refine HCut.out.mono ?_
        rintro e w2 ⟨rfl, e2⟩
        have H2 := toHid (show _ ∧ _ ∧ _ from ⟨HSt.out _ _ _ HW.out.1 e2, ext0 HW.out.2.1 e2, (e2.block _ (lt_of_heap HW.out.2.2) (fun z => z)).trans HW.out.2.2⟩)
        clear e2
        go_wp2_with fail
        rcases Nat.lt_or_ge k K with hkK | hkK
        · refine (HS.out k l w2 hkK hlk H2.out.1 H2.out.2.1).mono ?_
          rintro e w3 ⟨rfl, s3, e3⟩
          have H3 := toHid (show _ ∧ _ ∧ _ from ⟨s3, (H2.out.2.1.trans e3 (fun b hb z => by omega) : Ext Nope w w3), (e3.block _ (lt_of_heap H2.out.2.2) (fun z => absurd z (Nat.lt_irrefl _))).trans H2.out.2.2⟩)
          clear s3 e3
          go_wp2_with fail
          refine ⟨⟨k + 1, congrArg (Value.int .i64) (by omega), by rw [HTN.out], hkK, H3.out⟩, ?_⟩
          simp only [intOf]
          omega
        · have hkK' : k = K := by omega
          subst hkK'
          refine (HB.out l w2 hlk H2.out.1 H2.out.2.1).mono ?_
          rintro e w3 ⟨rfl, e3⟩
          have hz3 := (e3.block _ (lt_of_heap H2.out.2.2) (fun z => absurd z (Nat.lt_irrefl _))).trans H2.out.2.2
          have c0 : w3.cell? ⟨w.heap.size, 0, none⟩ = some (.string ⟨#[]⟩) := by rw [show (⟨w.heap.size, 0, none⟩ : Addr) = at_ w.heap.size 0 from rfl, cell_of_blk hz3]; rfl
          have f0 : w3.frozen? ⟨w.heap.size, 0, none⟩ = false := free_of_blk hz3 0
          have c1 : w3.cell? ⟨w.heap.size, 1, none⟩ = some (.int .i64 0) := by rw [show (⟨w.heap.size, 1, none⟩ : Addr) = at_ w.heap.size 1 from rfl, cell_of_blk hz3]; rfl
          have f1 : w3.frozen? ⟨w.heap.size, 1, none⟩ = false := free_of_blk hz3 1
          have c2 : w3.cell? ⟨w.heap.size, 2, none⟩ = some (.slice none 0 0) := by rw [show (⟨w.heap.size, 2, none⟩ : Addr) = at_ w.heap.size 2 from rfl, cell_of_blk hz3]; rfl
          have f2 : w3.frozen? ⟨w.heap.size, 2, none⟩ = false := free_of_blk hz3 2
          have c3 : w3.cell? ⟨w.heap.size, 3, none⟩ = some (.slice none 0 0) := by rw [show (⟨w.heap.size, 3, none⟩ : Addr) = at_ w.heap.size 3 from rfl, cell_of_blk hz3]; rfl
          have f3 : w3.frozen? ⟨w.heap.size, 3, none⟩ = false := free_of_blk hz3 3
          have c4 : w3.cell? ⟨w.heap.size, 4, none⟩ = some (.int .i64 0) := by rw [show (⟨w.heap.size, 4, none⟩ : Addr) = at_ w.heap.size 4 from rfl, cell_of_blk hz3]; rfl
          have f4 : w3.frozen? ⟨w.heap.size, 4, none⟩ = false := free_of_blk hz3 4
          have c5 : w3.cell? ⟨w.heap.size, 5, none⟩ = some (.slice none 0 0) := by rw [show (⟨w.heap.size, 5, none⟩ : Addr) = at_ w.heap.size 5 from rfl, cell_of_blk hz3]; rfl
          have f5 : w3.frozen? ⟨w.heap.size, 5, none⟩ = false := free_of_blk hz3 5
          have c6 : w3.cell? ⟨w.heap.size, 6, none⟩ = some (.slice none 0 0) := by rw [show (⟨w.heap.size, 6, none⟩ : Addr) = at_ w.heap.size 6 from rfl, cell_of_blk hz3]; rfl
          have f6 : w3.frozen? ⟨w.heap.size, 6, none⟩ = false := free_of_blk hz3 6
          have c7 : w3.cell? ⟨w.heap.size, 7, none⟩ = some (.slice none 0 0) := by rw [show (⟨w.heap.size, 7, none⟩ : Addr) = at_ w.heap.size 7 from rfl, cell_of_blk hz3]; rfl
          have f7 : w3.frozen? ⟨w.heap.size, 7, none⟩ = false := free_of_blk hz3 7
          have c8 : w3.cell? ⟨w.heap.size, 8, none⟩ = some (.string ⟨#[]⟩) := by rw [show (⟨w.heap.size, 8, none⟩ : Addr) = at_ w.heap.size 8 from rfl, cell_of_blk hz3]; rfl
          have f8 : w3.frozen? ⟨w.heap.size, 8, none⟩ = false := free_of_blk hz3 8
          have c9 : w3.cell? ⟨w.heap.size, 9, none⟩ = some (.slice none 0 0) := by rw [show (⟨w.heap.size, 9, none⟩ : Addr) = at_ w.heap.size 9 from rfl, cell_of_blk hz3]; rfl
          have f9 : w3.frozen? ⟨w.heap.size, 9, none⟩ = false := free_of_blk hz3 9
          have c10 : w3.cell? ⟨w.heap.size, 10, none⟩ = some (.slice none 0 0) := by rw [show (⟨w.heap.size, 10, none⟩ : Addr) = at_ w.heap.size 10 from rfl, cell_of_blk hz3]; rfl
          have f10 : w3.frozen? ⟨w.heap.size, 10, none⟩ = false := free_of_blk hz3 10
          have H3 := toHid (show _ ∧ _ from ⟨(H2.out.2.1.trans e3 (fun b hb z => by omega) : Ext Nope w w3), hz3⟩)
          clear e3 hz3
          go_wp2_with fail
          obtain ⟨hz4, e4⟩ := store11 (v0 := .string ⟨#[]⟩) (v1 := .int .i64 0) (v2 := .slice none 0 0) (v3 := .slice none 0 0) (v4 := .int .i64 0) (v5 := .slice none 0 0) (v6 := .slice none 0 0) (v7 := .slice none 0 0) (v8 := .string ⟨#[]⟩) (v9 := .slice none 0 0) (v10 := .slice none 0 0) H3.out.2
          generalize World.setCell _ _ _ = w4 at *
          obtain ⟨d0, d1, d2, d3, d4, d5, d6, d7, d8, d9, d10⟩ := font_cells hz4
          refine bodyPost_ret (v := .tuple #[noFont, .int .i64 (k + 1 : Nat), .int .i64 4]) ?_ rfl ⟨rfl, H3.out.1.trans e4 (fun b hb z => by have z : b = w.heap.size := z; omega)⟩
          simp [results, Tryz.results6, go_sem, d0, d1, d2, d3, d4, d5, d6, d7, d8, d9, d10, noFont]
          try omega
    · have hkK : k = ls.length := by omega
      have hkK' : k = K := by omega
      subst hkK'
      have e : ls.drop k = [] := List.drop_eq_nil_of_le (by omega)
      rw [e, textB_nil] at hsz ⊢
      have HCut := toHid (cut_end hm HR.out.1 hsz)
      have hlen : ls.length ≤ 100000 := Nat.le_trans (textB_len ls r) HR.out.2
      have hne : (k : Int) = 0 ∨ (¬ (k : Int) = 0 ∧ (r.toList == []) = false) := by
        by_cases h : k = 0
        · left; omega
        · right
          refine ⟨by omega, ?_⟩
          rcases HK2.out hkK with h' | h'
          · exact absurd h' h
          · rw [ByteArray.toList_eq, beq_eq_false_iff_ne]
            exact fun z => h' (bytes_ext z)
      clear hsz hm e
      rcases hne with hk0 | ⟨hk0, hne⟩
      all_goals
        go_wp2_with fail
        refine HCut.out.mono ?_
        rintro e w2 ⟨rfl, e2⟩
        have hz2 := (e2.block _ (lt_of_heap HW.out.2.2) (fun z => z)).trans HW.out.2.2
        have c0 : w2.cell? ⟨w.heap.size, 0, none⟩ = some (.string ⟨#[]⟩) := by rw [show (⟨w.heap.size, 0, none⟩ : Addr) = at_ w.heap.size 0 from rfl, cell_of_blk hz2]; rfl
        have f0 : w2.frozen? ⟨w.heap.size, 0, none⟩ = false := free_of_blk hz2 0
        have c1 : w2.cell? ⟨w.heap.size, 1, none⟩ = some (.int .i64 0) := by rw [show (⟨w.heap.size, 1, none⟩ : Addr) = at_ w.heap.size 1 from rfl, cell_of_blk hz2]; rfl
        have f1 : w2.frozen? ⟨w.heap.size, 1, none⟩ = false := free_of_blk hz2 1
        have c2 : w2.cell? ⟨w.heap.size, 2, none⟩ = some (.slice none 0 0) := by rw [show (⟨w.heap.size, 2, none⟩ : Addr) = at_ w.heap.size 2 from rfl, cell_of_blk hz2]; rfl
        have f2 : w2.frozen? ⟨w.heap.size, 2, none⟩ = false := free_of_blk hz2 2
        have c3 : w2.cell? ⟨w.heap.size, 3, none⟩ = some (.slice none 0 0) := by rw [show (⟨w.heap.size, 3, none⟩ : Addr) = at_ w.heap.size 3 from rfl, cell_of_blk hz2]; rfl
        have f3 : w2.frozen? ⟨w.heap.size, 3, none⟩ = false := free_of_blk hz2 3
        have c4 : w2.cell? ⟨w.heap.size, 4, none⟩ = some (.int .i64 0) := by rw [show (⟨w.heap.size, 4, none⟩ : Addr) = at_ w.heap.size 4 from rfl, cell_of_blk hz2]; rfl
        have f4 : w2.frozen? ⟨w.heap.size, 4, none⟩ = false := free_of_blk hz2 4
        have c5 : w2.cell? ⟨w.heap.size, 5, none⟩ = some (.slice none 0 0) := by rw [show (⟨w.heap.size, 5, none⟩ : Addr) = at_ w.heap.size 5 from rfl, cell_of_blk hz2]; rfl
        have f5 : w2.frozen? ⟨w.heap.size, 5, none⟩ = false := free_of_blk hz2 5
        have c6 : w2.cell? ⟨w.heap.size, 6, none⟩ = some (.slice none 0 0) := by rw [show (⟨w.heap.size, 6, none⟩ : Addr) = at_ w.heap.size 6 from rfl, cell_of_blk hz2]; rfl
        have f6 : w2.frozen? ⟨w.heap.size, 6, none⟩ = false := free_of_blk hz2 6
        have c7 : w2.cell? ⟨w.heap.size, 7, none⟩ = some (.slice none 0 0) := by rw [show (⟨w.heap.size, 7, none⟩ : Addr) = at_ w.heap.size 7 from rfl, cell_of_blk hz2]; rfl
        have f7 : w2.frozen? ⟨w.heap.size, 7, none⟩ = false := free_of_blk hz2 7
        have c8 : w2.cell? ⟨w.heap.size, 8, none⟩ = some (.string ⟨#[]⟩) := by rw [show (⟨w.heap.size, 8, none⟩ : Addr) = at_ w.heap.size 8 from rfl, cell_of_blk hz2]; rfl
        have f8 : w2.frozen? ⟨w.heap.size, 8, none⟩ = false := free_of_blk hz2 8
        have c9 : w2.cell? ⟨w.heap.size, 9, none⟩ = some (.slice none 0 0) := by rw [show (⟨w.heap.size, 9, none⟩ : Addr) = at_ w.heap.size 9 from rfl, cell_of_blk hz2]; rfl
        have f9 : w2.frozen? ⟨w.heap.size, 9, none⟩ = false := free_of_blk hz2 9
        have c10 : w2.cell? ⟨w.heap.size, 10, none⟩ = some (.slice none 0 0) := by rw [show (⟨w.heap.size, 10, none⟩ : Addr) = at_ w.heap.size 10 from rfl, cell_of_blk hz2]; rfl
        have f10 : w2.frozen? ⟨w.heap.size, 10, none⟩ = false := free_of_blk hz2 10
        have H2 := toHid (show _ ∧ _ from ⟨(ext0 HW.out.2.1 e2 : Ext Nope w w2), hz2⟩)
        clear e2 hz2
        go_wp2_with fail
        obtain ⟨hz4, e4⟩ := store11 (v0 := .string ⟨#[]⟩) (v1 := .int .i64 0) (v2 := .slice none 0 0) (v3 := .slice none 0 0) (v4 := .int .i64 0) (v5 := .slice none 0 0) (v6 := .slice none 0 0) (v7 := .slice none 0 0) (v8 := .string ⟨#[]⟩) (v9 := .slice none 0 0) (v10 := .slice none 0 0) H2.out.2
        generalize World.setCell _ _ _ = w4 at *
        obtain ⟨d0, d1, d2, d3, d4, d5, d6, d7, d8, d9, d10⟩ := font_cells hz4
        refine bodyPost_ret (v := .tuple #[noFont, .int .i64 (k + 1 : Nat), .int .i64 4]) ?_ rfl ⟨rfl, H2.out.1.trans e4 (fun b hb z => by have z : b = w.heap.size := z; omega)⟩
        simp [results, Tryz.results6, go_sem, d0, d1, d2, d3, d4, d5, d6, d7, d8, d9, d10, noFont]
        try omega
end Go.Proofs.YtajebdpalnpjdaaGreatDoor
