/-
  slices.Replace of two rectangles by one.
-/
import Derived.Test.YtmmcadbkmfjcbaaDoorC2
import Derived.Laws.CopyOwn
import Derived.Deep.DeepCutAuto
namespace Go.Proofs.YtmmcadbkmfjcbaaDoor
open Go.RowKit
attribute [local go_sem] alloc_drewN setCell_drewN

theorem ext_setRow (w : World) (g : Nat) (cs : Array Value) : Ext (fun b => b = g) w (w.setRow g cs) := ⟨rfl, rfl, rfl, by simp [World.setRow], fun k _ hk => setRow_other w g k cs hk⟩
theorem setCells_row {w : World} {g o : Nat} {cur : List Value} {T : TypeId} (vs : List Value) (hg : w.heap[g]? = some (.cells cur.toArray T (0, 0))) (hl : o + vs.length ≤ cur.length) (h1 : ∀ v ∈ vs, v.oneCell' = true) :
    w.setCells g o vs = w.setRow g (splice cur o vs).toArray := by
  have e1 := run_storeCells_cells (P := Tryd.prog) g o vs 0 w (fun j hj => by rw [cell_of_blk hg]; simp; omega) (fun j _ => free_of_blk hg _) h1
  have e2 := run_storeCells_at Tryd.prog g o T vs 0 cur.toArray w hg (by simpa using hl) h1
  rw [e1] at e2
  injection e2 with _ e3
  simpa [splice] using e3

abbrev Row (w : World) (g : Nat) (cur : List Value) : Prop := w.heap[g]? = some (.cells cur.toArray 31 (0, 0))
theorem Row.set {w : World} {g : Nat} {cur : List Value} (h : Row w g cur) (c2 : List Value) : Row (w.setRow g c2.toArray) g c2 := setRow_heap w g _ _ 31 _ h

theorem size31 : (Tryd.prog.info? 31).map (·.size) = some 4 := by
  obtain ⟨i, hi, h0, h1, h2⟩ := info_parts info31
  rw [hi]; simp [h1]

theorem wl_copy {w : World} {ops : Array Oper} {rest : List Oper} {o : Oper} {a : Act} {Q : Exit → Act → World → Prop} (hgd : o.guard = none) (d s : Operand) (dT sT : TypeId)
    (ho : o.op = .call { callee := .builtin .copy, args := #[d, s], argTypes := #[dT, sT] }) (hu : Tryd.prog.underlying dT = some (.slice 31))
    (g off dLen dCap : Nat) (ad : Addr) (sLen sCap : Nat) (hd : a.eval d = .slice (some ⟨g, off, none⟩) dLen dCap) (hs : a.eval s = .slice (some ad) sLen sCap)
    (cur : List Value) (hg : Row w g cur) (cs : List Value) (hn : cs.length = Nat.min sLen dLen * 4)
    (hsrc : ∀ j v, cs[j]? = some v → w.cell? (ad.add j) = some v) (hfit : off + cs.length ≤ cur.length) (h1 : ∀ v ∈ cs, v.oneCell' = true)
    (h : ∀ w', Hid (Row w' g (splice cur off cs)) → Ext (fun b => b = g) w w' → wpList Tryd.prog ops Q rest (a.put o.dst (goInt (Nat.min sLen dLen))) w') : wpList Tryd.prog ops Q (o :: rest) a w := by
  refine wpList_plain hgd fun K hK => ?_
  have hl := run_loadCells_list (P := Tryd.prog) w ad cs hsrc
  have hst := run_storeCells_at Tryd.prog g off 31 cs 0 cur.toArray w hg (by simpa using hfit) h1
  have hrun : (Builtin.copy_ #[dT, sT] o.type #[.slice (some ⟨g, off, none⟩) dLen dCap, .slice (some ad) sLen sCap]).run Tryd.prog w = .ok (goInt (Nat.min sLen dLen)) (w.setRow g (splice cur off cs).toArray) := by
    obtain ⟨i, hi, h0, hi4, h2⟩ := info_parts info31
    simp [Builtin.copy_, run_underlying hu, Builtin.lenOf, Builtin.firstCells, sizeOf, typeInfo, hi, hi4, ← hn, hl, hst, splice]
  unfold Oper.wp
  simp [execOp, ho, resolve, invoke, builtin, hd, hs, hrun, Result.andThen]
  exact hK _ _ (h _ (toHid (hg.set _)) (ext_setRow _ _ _))

theorem st_copy {w : World} {ops : Array Oper} {o : Oper} {a : Act} {K : Act → World → Prop} {Q : Exit → Act → World → Prop} {E : Prop} (hgd : o.guard = none) (d s : Operand) (dT sT : TypeId)
    (ho : o.op = .call { callee := .builtin .copy, args := #[d, s], argTypes := #[dT, sT] }) (hu : Tryd.prog.underlying dT = some (.slice 31))
    (g off dLen dCap : Nat) (ad : Addr) (sLen sCap : Nat) (hd : a.eval d = .slice (some ⟨g, off, none⟩) dLen dCap) (hs : a.eval s = .slice (some ad) sLen sCap)
    (cur : List Value) (hg : Row w g cur) (cs : List Value) (hn : cs.length = Nat.min sLen dLen * 4)
    (hsrc : ∀ j v, cs[j]? = some v → w.cell? (ad.add j) = some v) (hfit : off + cs.length ≤ cur.length) (h1 : ∀ v ∈ cs, v.oneCell' = true)
    (h : ∀ w', Hid (Row w' g (splice cur off cs)) → Ext (fun b => b = g) w w' → K (a.put o.dst (goInt (Nat.min sLen dLen))) w') :
    if Region.wanted o (yielded ops a.tmps) = true then Oper.wp Tryd.prog o a w K Q else E := by
  have hw : Region.wanted o (yielded ops a.tmps) = true := by simp [Region.wanted, hgd]
  rw [if_pos hw]
  have hl := run_loadCells_list (P := Tryd.prog) w ad cs hsrc
  have hst := run_storeCells_at Tryd.prog g off 31 cs 0 cur.toArray w hg (by simpa using hfit) h1
  have hrun : (Builtin.copy_ #[dT, sT] o.type #[.slice (some ⟨g, off, none⟩) dLen dCap, .slice (some ad) sLen sCap]).run Tryd.prog w = .ok (goInt (Nat.min sLen dLen)) (w.setRow g (splice cur off cs).toArray) := by
    obtain ⟨i, hi, h0, hi4, h2⟩ := info_parts info31
    simp [Builtin.copy_, run_underlying hu, Builtin.lenOf, Builtin.firstCells, sizeOf, typeInfo, hi, hi4, ← hn, hl, hst, splice]
  unfold Oper.wp
  simp [execOp, ho, resolve, invoke, builtin, hd, hs, hrun, Result.andThen]
  exact h _ (toHid (hg.set _)) (ext_setRow _ _ _)

theorem wl_room {w : World} {ops : Array Oper} {rest : List Oper} {o : Oper} {a : Act} {Q : Exit → Act → World → Prop} (hgd : o.guard = none) (d s : Operand) (dT : TypeId)
    (ho : o.op = .call { callee := .builtin .append, args := #[d, s], argTypes := #[dT, dT] }) (hu : Tryd.prog.underlying dT = some (.slice 31))
    (g off dLen dCap : Nat) (ad : Addr) (sLen sCap : Nat) (hd : a.eval d = .slice (some ⟨g, off, none⟩) dLen dCap) (hs : a.eval s = .slice (some ad) sLen sCap)
    (cur : List Value) (hg : Row w g cur) (cs : List Value) (hn : cs.length = sLen * 4) (hroom : dLen + sLen ≤ dCap)
    (hsrc : ∀ j v, cs[j]? = some v → w.cell? (ad.add j) = some v) (hfit : off + dLen * 4 + cs.length ≤ cur.length) (h1 : ∀ v ∈ cs, v.oneCell' = true)
    (h : ∀ w', Hid (Row w' g (splice cur (off + dLen * 4) cs)) → Ext (fun b => b = g) w w' → wpList Tryd.prog ops Q rest (a.put o.dst (.slice (some ⟨g, off, none⟩) (dLen + sLen) dCap)) w') : wpList Tryd.prog ops Q (o :: rest) a w := by
  refine wpList_plain hgd fun K hK => ?_
  obtain ⟨i, hi, h0, hi4, h2⟩ := info_parts info31
  have hrun := run_append_room_cells (P := Tryd.prog) w dT o.type 31 i hu hi g off dLen dCap ad sLen sCap cs (by rw [hi4]; exact hn) hsrc h1 hroom (fun j hj => by rw [hi4, cell_of_blk hg]; simp; omega) (fun j _ => free_of_blk hg _)
  rw [hi4, setCells_row cs hg hfit h1] at hrun
  unfold Oper.wp
  simp [execOp, ho, resolve, invoke, builtin, hd, hs, hrun, Result.andThen]
  exact hK _ _ (h _ (toHid (hg.set _)) (ext_setRow _ _ _))

theorem wl_clear {w : World} {ops : Array Oper} {rest : List Oper} {o : Oper} {a : Act} {Q : Exit → Act → World → Prop} (hgd : o.guard = none) (d : Operand) (dT : TypeId)
    (ho : o.op = .call { callee := .builtin .clear, args := #[d], argTypes := #[dT] }) (hu : Tryd.prog.underlying dT = some (.slice 31))
    (g off dCap : Nat) (hd : a.eval d = .slice (some ⟨g, off, none⟩) 1 dCap)
    (cur : List Value) (hg : Row w g cur) (hfit : off + 4 ≤ cur.length)
    (h : ∀ w', Hid (Row w' g (splice cur off (rectCells [zeroR]))) → Ext (fun b => b = g) w w' → wpList Tryd.prog ops Q rest (a.put o.dst (.tuple #[])) w') : wpList Tryd.prog ops Q (o :: rest) a w := by
  refine wpList_plain hgd fun K hK => ?_
  obtain ⟨i, hi, h0, hi4, h2⟩ := info_parts info31
  have hst := run_storeCells_at Tryd.prog g off 31 (rectCells [zeroR]) 0 cur.toArray w hg (by simpa [rectCells] using hfit) (rectCells_oneCell _)
  have hrun : (Builtin.clear_ #[dT] o.type #[.slice (some ⟨g, off, none⟩) 1 dCap]).run Tryd.prog w = .ok (.tuple #[]) (w.setRow g (splice cur off (rectCells [zeroR])).toArray) := by
    have hz : (Builtin.zeroCells (Value.agg #[.int .i64 0, .int .i64 0, .int .i64 0, .int .i64 0]).cells 1).toList = rectCells [zeroR] := by kernel_rfl
    simp [Builtin.clear_, run_underlying hu, zeroValue, typeInfo, hi, h0, hz, hst, splice, Sem.run_bind]
  unfold Oper.wp
  simp [execOp, ho, resolve, invoke, builtin, hd, hrun, Result.andThen]
  exact hK _ _ (h _ (toHid (hg.set _)) (ext_setRow _ _ _))

theorem rectCells_take (L : List R) (k : Nat) : (rectCells L).take (k * 4) = rectCells (L.take k) := by
  rw [show rectCells L = rectCells (L.take k) ++ rectCells (L.drop k) by rw [← rectCells_append, List.take_append_drop]]
  by_cases hk : k ≤ L.length
  · rw [List.take_append_of_le_length (by rw [rectCells_length, List.length_take]; omega), List.take_of_length_le (by rw [rectCells_length, List.length_take]; omega)]
  · rw [List.take_of_length_le (by rw [List.length_append, rectCells_length, rectCells_length, List.length_take, List.length_drop]; omega), List.drop_eq_nil_of_le (by omega)]
    simp [rectCells]
theorem rectCells_drop (L : List R) (k : Nat) : (rectCells L).drop (k * 4) = rectCells (L.drop k) := by
  have h1 : rectCells (L.take k) ++ rectCells (L.drop k) = rectCells L := by rw [← rectCells_append, List.take_append_drop]
  have h2 : (rectCells L).take (k * 4) ++ (rectCells L).drop (k * 4) = rectCells L := List.take_append_drop _ _
  rw [rectCells_take, ← h1] at h2
  rw [h1] at h2
  exact List.append_cancel_left (h2.trans h1.symm)
theorem splice_rects (L M : List R) (sp : List Value) (k : Nat) (h : k + M.length ≤ L.length) : splice (rectCells L ++ sp) (k * 4) (rectCells M) = rectCells (splice L k M) ++ sp := by
  unfold splice
  rw [List.take_append_of_le_length (by rw [rectCells_length]; omega), rectCells_take, rectCells_length,
    show k * 4 + M.length * 4 = (k + M.length) * 4 by omega, List.drop_append_of_le_length (by rw [rectCells_length]; omega), rectCells_drop, rectCells_append, rectCells_append]
  simp
end Go.Proofs.YtmmcadbkmfjcbaaDoor
