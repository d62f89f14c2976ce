/-
  sanity.
-/
import Derived.Test.YtmmcadbkmfjcbaaDoorE9
namespace Go.Proofs.YtmmcadbkmfjcbaaDoor
open Go.RowKit
attribute [local go_sem] alloc_drewN setCell_drewN

theorem reads_lit {w : World} {b n : Nat} {fz : Nat × Nat} (xs : List Nat) (h : w.heap[b]? = some (.cells (rowCells xs).toArray 63 fz)) (hn : xs.length = n) (hm : n ≤ 1000) : Reads w (.slice (some ⟨b, 0, none⟩) n n) xs := by
  subst hn
  refine ⟨_, _, rfl, Nat.le_refl _, by omega, fun h0 => ⟨b, 0, rfl, lt_of_heap h, fun k x hk => ?_⟩⟩
  rw [Nat.zero_add, cell_of_blk h, List.getElem?_toArray]
  exact rowCells_at hk
theorem rects_lit {w : World} {b n : Nat} (rs : List R) (h : w.heap[b]? = some (.cells (rectCells rs).toArray 31 (0, 0))) (hn : rs.length = n) (hm : n ≤ 1000) : RectsAt w 0 (.slice (some ⟨b, 0, none⟩) n n) rs := by
  subst hn
  exact row_rects (sp := []) h (by simp) (by rw [rectCells_length]) (Nat.zero_le _) (Nat.le_refl _) (by unfold maxLen; omega)
theorem RectsAt.ext0 {w w2 : World} {b : Nat} {v : Value} {rs : List R} (h : RectsAt w b v rs) (e : Ext Nope w w2) : RectsAt w2 b v rs := own_ext h e (fun _ _ z => z)
/-- A panel that the call made: where it is, and that nothing of before has turned. -/
structure Own (w W : World) (b : Nat) (rv : Value) (p : Pan) : Prop where
  at_ : PanAt W w.heap.size b rv p
  ext : Ext Nope w W
theorem Own.next {w W W' : World} {b : Nat} {rv : Value} {p : Pan} (h : Own w W b rv p) (e : Ext Nope W W') : Own w W' b rv p := ⟨h.at_.ext e (fun _ _ z => z), ext0 h.ext e⟩
theorem Own.turn {w W W' : World} {b : Nat} {rv : Value} {p q : Pan} (h : Own w W b rv p) (hq : PanAt W' w.heap.size b rv q) (e : Ext (Foot b rv) W W') : Own w W' b rv q := ⟨hq, h.ext.trans e (fun i hi z => absurd (h.at_.foot i z).1 (by omega))⟩
theorem Own.sep {w W : World} {b g : Nat} {rv : Value} {p : Pan} {n cap : Nat} (h : Own w W b rv p) (hg : W.heap.size ≤ g) : ∀ k, (Value.slice (some ⟨g, 0, none⟩) n cap).ownBlock = some k → ¬ Foot b rv k := fun k hk z => by
  have h1 := (h.at_.foot k z).2
  have h2 : g = k := by simpa [Value.ownBlock] using hk
  omega

set_option maxRecDepth 100000 in
set_option maxHeartbeats 8000000 in
/-- abugidalaw33.sanity -/
theorem sanity_calls (w : World) (hT : Tab w) : Calls Tryd.prog 11 #[] w fun e w' => e = .returned (.bool true) ∧ Ext Nope w w' := by
  have hmk : ∀ W' : World, (Instr.makeSlice 32 (.int .i64 4) (.int .i64 4)).run Tryd.prog W' = .ok (.slice (some ⟨W'.heap.size, 0, none⟩) 4 4) (W'.alloc (.cells (madeCells #[.int .u64 0] 4) 63)) := fun W' => made_all W' 4 (by omega)
  go_enter Tryd.func11, Tryd.ntmps11
  go_wp2_with fail
  refine (new_calls 8 4 _ (by omega) (by omega) (by omega) (by omega)).mono ?_
  rintro e w1 ⟨b, rv, rfl, h1, h2⟩
  have H1 : Own w w1 b rv ⟨8, [0, 0, 0, 0], false, 0, 0⟩ := ⟨h1, h2⟩
  clear h1 h2
  go_wp2_with fail
  refine (rect_calls 2 1 3 2 _).mono ?_
  rintro e w2 ⟨rfl, x2⟩
  have H2 := H1.next x2
  clear x2
  go_wp2_with fail
  have A2 := H2.next ((Ext.refl Nope w2).alloc (.cells (rowCells [5, 2]).toArray 63))
  refine (write_calls (c := ⟨2, 1, 3, 2⟩) (xs := [5, 2]) A2.at_ (by constructor <;> simp [U64]) (reads_lit [5, 2] (heap_alloc_new _ _) rfl (by simp)) (H2.sep (Nat.le_refl _)) (by simp [U64]) (by simp [R.i64]) (by simp)).mono ?_
  rintro e w3 ⟨rfl, y3, z3⟩
  have H3 : Own w w3 b rv ⟨8, [0, 20, 8, 0], false, 0, 1⟩ := A2.turn y3 z3
  have e3 : (writeA ⟨8, [0, 0, 0, 0], false, 0, 0⟩ ⟨2, 1, 3, 2⟩ [5, 2]).1 = 0 := by decide
  rw [e3]
  clear A2 y3 z3 e3 H2
  go_wp2_with fail
  refine (pixels_calls H3.at_ (by simp)).mono ?_
  rintro e w4 ⟨px, rfl, r4, x4⟩
  have H4 := H3.next x4
  clear x4
  go_wp2_with fail
  refine (same_calls (xs := [0, 20, 8, 0]) (ys := [0, 20, 8, 0]) (r4.reads.ext0 ((Ext.refl Nope w4).alloc (.cells (rowCells [0, 20, 8, 0]).toArray 63))) (reads_lit [0, 20, 8, 0] (heap_alloc_new _ _) rfl (by simp))).mono ?_
  rintro e w5 ⟨rfl, x5⟩
  have H5 := H4.next (ext0 ((Ext.refl Nope w4).alloc (.cells (rowCells [0, 20, 8, 0]).toArray 63)) x5)
  rw [show decide (([0, 20, 8, 0] : List Nat) = [0, 20, 8, 0]) = true from by decide]
  clear x5 r4
  go_wp2_with fail
  refine (updates_calls H5.at_).mono ?_
  rintro e w5x ⟨rfl, rfl⟩
  go_wp2_with fail
  refine (fail_calls H5.at_ 1).mono ?_
  rintro e w6 ⟨rfl, y6, z6⟩
  have H6 : Own w w6 b rv ⟨8, [0, 20, 8, 0], true, 1, 1⟩ := H5.turn y6 z6
  clear y6 z6 H5
  go_wp2_with fail
  refine (rect_calls 0 0 1 3 _).mono ?_
  rintro e w7 ⟨rfl, x7⟩
  have H7 := H6.next x7
  clear x7
  go_wp2_with fail
  have A7 := H7.next ((Ext.refl Nope w7).alloc (.cells (rowCells [1, 1, 1]).toArray 63))
  refine (write_calls (c := ⟨0, 0, 1, 3⟩) (xs := [1, 1, 1]) A7.at_ (by constructor <;> simp [U64]) (reads_lit [1, 1, 1] (heap_alloc_new _ _) rfl (by simp)) (H7.sep (Nat.le_refl _)) (by simp [U64]) (by simp [R.i64]) (by simp)).mono ?_
  rintro e w8 ⟨rfl, y8, z8⟩
  have H8 : Own w w8 b rv ⟨8, [1, 20, 8, 0], true, -1, 1⟩ := A7.turn y8 z8
  have e8 : (writeA ⟨8, [0, 20, 8, 0], true, 1, 1⟩ ⟨0, 0, 1, 3⟩ [1, 1, 1]).1 = 52 := by decide
  rw [e8]
  clear A7 y8 z8 e8 H7
  go_wp2_with fail
  refine (pixels_calls H8.at_ (by simp)).mono ?_
  rintro e w9 ⟨px, rfl, r9, x9⟩
  have H9 := H8.next x9
  clear x9
  go_wp2_with fail
  refine (same_calls (xs := [1, 20, 8, 0]) (ys := [1, 20, 8, 0]) (r9.reads.ext0 ((Ext.refl Nope w9).alloc (.cells (rowCells [1, 20, 8, 0]).toArray 63))) (reads_lit [1, 20, 8, 0] (heap_alloc_new _ _) rfl (by simp))).mono ?_
  rintro e w10 ⟨rfl, x10⟩
  have H10 := H9.next (ext0 ((Ext.refl Nope w9).alloc (.cells (rowCells [1, 20, 8, 0]).toArray 63)) x10)
  rw [show decide (([1, 20, 8, 0] : List Nat) = [1, 20, 8, 0]) = true from by decide]
  clear x10 r9
  go_wp2_with fail
  refine (updates_calls H10.at_).mono ?_
  rintro e w10x ⟨rfl, rfl⟩
  go_wp2_with fail
  refine (rect_calls 6 0 3 1 _).mono ?_
  rintro e w11 ⟨rfl, x11⟩
  have H11 := H10.next x11
  clear x11
  go_wp2_with fail
  have A11 := H11.next ((Ext.refl Nope w11).alloc (.cells (rowCells [0]).toArray 63))
  refine (write_calls (c := ⟨6, 0, 3, 1⟩) (xs := [0]) A11.at_ (by constructor <;> simp [U64]) (reads_lit [0] (heap_alloc_new _ _) rfl (by simp)) (H11.sep (Nat.le_refl _)) (by simp [U64]) (by simp [R.i64]) (by simp)).mono ?_
  rintro e w12 ⟨rfl, y12, z12⟩
  have H12 : Own w w12 b rv ⟨8, [1, 20, 8, 0], true, -1, 1⟩ := A11.turn y12 z12
  have e12 : (writeA ⟨8, [1, 20, 8, 0], true, -1, 1⟩ ⟨6, 0, 3, 1⟩ [0]).1 = 1 := by decide
  rw [e12]
  clear A11 y12 z12 e12 H11
  go_wp2_with fail
  refine (rect_calls 0 0 1 1 _).mono ?_
  rintro e w13 ⟨rfl, x13⟩
  have H13 := H12.next x13
  clear x13
  go_wp2_with fail
  have A13 := H13.next ((Ext.refl Nope w13).alloc (.cells (rowCells [2]).toArray 63))
  refine (write_calls (c := ⟨0, 0, 1, 1⟩) (xs := [2]) A13.at_ (by constructor <;> simp [U64]) (reads_lit [2] (heap_alloc_new _ _) rfl (by simp)) (H13.sep (Nat.le_refl _)) (by simp [U64]) (by simp [R.i64]) (by simp)).mono ?_
  rintro e w14 ⟨rfl, y14, z14⟩
  have H14 : Own w w14 b rv ⟨8, [1, 20, 8, 0], true, -1, 1⟩ := A13.turn y14 z14
  have e14 : (writeA ⟨8, [1, 20, 8, 0], true, -1, 1⟩ ⟨0, 0, 1, 1⟩ [2]).1 = 1 := by decide
  rw [e14]
  clear A13 y14 z14 e14 H13
  go_wp2_with fail
  refine (rect_calls 0 0 1 1 _).mono ?_
  rintro e w15 ⟨rfl, x15⟩
  have H15 := H14.next x15
  clear x15
  go_wp2_with fail
  have A15 := H15.next ((Ext.refl Nope w15).alloc (.cells (rowCells [1, 1]).toArray 63))
  refine (write_calls (c := ⟨0, 0, 1, 1⟩) (xs := [1, 1]) A15.at_ (by constructor <;> simp [U64]) (reads_lit [1, 1] (heap_alloc_new _ _) rfl (by simp)) (H15.sep (Nat.le_refl _)) (by simp [U64]) (by simp [R.i64]) (by simp)).mono ?_
  rintro e w16 ⟨rfl, y16, z16⟩
  have H16 : Own w w16 b rv ⟨8, [1, 20, 8, 0], true, -1, 1⟩ := A15.turn y16 z16
  have e16 : (writeA ⟨8, [1, 20, 8, 0], true, -1, 1⟩ ⟨0, 0, 1, 1⟩ [1, 1]).1 = 1 := by decide
  rw [e16]
  clear A15 y16 z16 e16 H15
  have E16 := H16.ext
  clear H16
  have N16 := (reads_lit (w := w16.alloc (.cells (rowCells [2, 8, 0, 4]).toArray 63)) [2, 8, 0, 4] (heap_alloc_new _ _) rfl (by simp)).ext0 ((Ext.refl Nope _).alloc (.cells (madeCells #[.int .u64 0] 4) 63))
  have M16 := (made_rows (w16.alloc (.cells (rowCells [2, 8, 0, 4]).toArray 63)) 4 (by omega)).reads
  have X16 : Ext Nope w ((w16.alloc (.cells (rowCells [2, 8, 0, 4]).toArray 63)).alloc (.cells (madeCells #[.int .u64 0] 4) 63)) := (E16.alloc _).alloc _
  go_wp2_with fail
  refine (plan_calls (xs := List.replicate 4 0) (ys := [2, 8, 0, 4]) 8 3 (by simpa using M16) N16 (hT.ext0 X16) (by simp [U64]) (by simp [U64])).mono ?_
  rintro e w17 ⟨p1, rfl, rp, x17⟩
  have T17 := ext0 X16 x17
  have N17 := N16.ext0 x17
  rw [show planA 8 3 (List.replicate 4 0) [2, 8, 0, 4] = [⟨1, 0, 3, 2⟩, ⟨2, 3, 1, 1⟩] from by kernel_rfl] at rp
  have R17 := rp
  clear rp x17 N16 M16 X16 E16
  go_wp2_with fail
  refine (rect_calls 1 0 3 2 _).mono ?_
  rintro e w18 ⟨rfl, x18⟩
  have T18 := ext0 T17 x18
  have N18 := N17.ext0 x18
  have R18 := R17.ext0 x18
  clear x18 T17 N17 R17
  go_wp2_with fail
  refine (rect_calls 2 3 1 1 _).mono ?_
  rintro e w19 ⟨rfl, x19⟩
  have T19 := ext0 T18 x19
  have N19 := N18.ext0 x19
  have R19 := R18.ext0 x19
  clear x19 T18 N18 R18
  go_wp2_with fail
  have Q19 : RectsAt (w19.alloc (.cells (rectCells [⟨1, 0, 3, 2⟩, ⟨2, 3, 1, 1⟩]).toArray 31)) 0 _ [⟨1, 0, 3, 2⟩, ⟨2, 3, 1, 1⟩] := rects_lit (n := 2) _ (heap_alloc_new _ _) rfl (by omega)
  have R20 := R19.ext0 ((Ext.refl Nope w19).alloc (.cells (rectCells [⟨1, 0, 3, 2⟩, ⟨2, 3, 1, 1⟩]).toArray 31))
  refine (samer_calls R20 Q19).mono ?_
  rintro e w20 ⟨rfl, x20⟩
  have T20 := ext0 (T19.alloc (.cells (rectCells [⟨1, 0, 3, 2⟩, ⟨2, 3, 1, 1⟩]).toArray 31)) x20
  have N20 := (N19.ext0 ((Ext.refl Nope w19).alloc (.cells (rectCells [⟨1, 0, 3, 2⟩, ⟨2, 3, 1, 1⟩]).toArray 31))).ext0 x20
  rw [show decide (([⟨1, 0, 3, 2⟩, ⟨2, 3, 1, 1⟩] : List R) = [⟨1, 0, 3, 2⟩, ⟨2, 3, 1, 1⟩]) = true from by decide]
  clear x20 T19 N19 R19 Q19 R20
  have M20 := (made_rows w20 4 (by omega)).reads
  have N21 := N20.ext0 ((Ext.refl Nope w20).alloc (.cells (madeCells #[.int .u64 0] 4) 63))
  have T21 := T20.alloc (.cells (madeCells #[.int .u64 0] 4) 63)
  go_wp2_with fail
  refine (plan_calls (xs := List.replicate 4 0) (ys := [2, 8, 0, 4]) 8 1 M20 N21 (hT.ext0 T21) (by simp [U64]) (by simp [U64])).mono ?_
  rintro e w22 ⟨p2, rfl, rp, x22⟩
  have T22 := ext0 T21 x22
  rw [show planA 8 1 (List.replicate 4 0) [2, 8, 0, 4] = [⟨1, 0, 3, 4⟩] from by kernel_rfl] at rp
  have R22 := rp
  clear rp x22 N20 N21 M20 T21 T20
  go_wp2_with fail
  refine (rect_calls 1 0 3 4 _).mono ?_
  rintro e w23 ⟨rfl, x23⟩
  have T23 := ext0 T22 x23
  have R23 := R22.ext0 x23
  clear x23 T22 R22
  go_wp2_with fail
  have Q23 : RectsAt (w23.alloc (.cells (rectCells [⟨1, 0, 3, 4⟩]).toArray 31)) 0 _ [⟨1, 0, 3, 4⟩] := rects_lit (n := 1) _ (heap_alloc_new _ _) rfl (by omega)
  have R24 := R23.ext0 ((Ext.refl Nope w23).alloc (.cells (rectCells [⟨1, 0, 3, 4⟩]).toArray 31))
  refine (samer_calls R24 Q23).mono ?_
  rintro e w24 ⟨rfl, x24⟩
  have T24 := ext0 (T23.alloc (.cells (rectCells [⟨1, 0, 3, 4⟩]).toArray 31)) x24
  rw [show decide (([⟨1, 0, 3, 4⟩] : List R) = [⟨1, 0, 3, 4⟩]) = true from by decide]
  clear x24 T23 R23 Q23 R24
  go_wp2_with fail
  refine (rect_calls 1 0 3 2 _).mono ?_
  rintro e w25 ⟨rfl, x25⟩
  have T25 := ext0 (T24.alloc (.cells (rowCells [2, 8]).toArray 63)) x25
  have N25 := (reads_lit (w := w24.alloc (.cells (rowCells [2, 8]).toArray 63)) (n := 2) [2, 8] (heap_alloc_new _ _) rfl (by omega)).ext0 x25
  clear x25 T24
  go_wp2_with fail
  refine (cut_calls (xs := [2, 8]) N25 (by simp [U64]) ⟨1, 0, 3, 2⟩ (by simp [R.i64]) (by simp)).mono ?_
  rintro e w26 ⟨u, rfl, r26, x26⟩
  have T26 := ext0 T25 x26
  rw [show cutR [2, 8] ⟨1, 0, 3, 2⟩ = [1, 4] from by kernel_rfl] at r26
  have C26 := r26
  clear r26 x26 T25 N25
  go_wp2_with fail
  refine (same_calls (xs := [1, 4]) (ys := [1, 4]) (C26.reads.ext0 ((Ext.refl Nope w26).alloc (.cells (rowCells [1, 4]).toArray 63))) (reads_lit (n := 2) [1, 4] (heap_alloc_new _ _) rfl (by omega))).mono ?_
  rintro e w27 ⟨rfl, x27⟩
  have T27 := ext0 (T26.alloc (.cells (rowCells [1, 4]).toArray 63)) x27
  rw [show decide (([1, 4] : List Nat) = [1, 4]) = true from by decide]
  clear x27 T26 C26
  go_wp2
  go_ret
  exact ⟨rfl, T27⟩
end Go.Proofs.YtmmcadbkmfjcbaaDoor
