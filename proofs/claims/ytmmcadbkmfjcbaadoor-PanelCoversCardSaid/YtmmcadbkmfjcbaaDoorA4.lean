/-
  Copies of rows, and the first pixels of rows.
-/
import Derived.Test.YtmmcadbkmfjcbaaDoorA3
import Derived.ArgAppend
import Derived.WalkSpells
namespace Go.Proofs.YtmmcadbkmfjcbaaDoor
open Go.RowKit
attribute [local go_sem] alloc_drewN setCell_drewN

theorem RowsAt.mono {w : World} {b b' : Nat} {v : Value} {xs : List Nat} (h : RowsAt w b v xs) (hb : b' ≤ b) : RowsAt w b' v xs := own_base h fun g hg => Nat.le_trans hb (World.ownsRow.lt h g hg).1
theorem RowsAt.snoc {w : World} {base n : Nat} {v : Value} {xs : List Nat} {x : Nat} (h : w.ownsRow base 63 1 v n (rowCells xs ++ rowCells [x])) (hn : n = xs.length + 1) : RowsAt w base v (xs ++ [x]) := by
  subst hn
  show w.ownsRow base 63 1 v (xs ++ [x]).length (rowCells (xs ++ [x]))
  rw [rowCells_append, List.length_append]
  exact h
theorem u64_at {w : World} {b x : Nat} {T : TypeId} {fz : Nat × Nat} (h : w.heap[b]? = some (.cells #[u64 x] T fz)) : ∀ (j : Nat) (u : Value), (rowCells [x])[j]? = some u → w.cell? (Addr.add ⟨b, 0, none⟩ j) = some u := by
  intro j u hj
  match j, hj with
  | 0, hj => rw [show Addr.add ⟨b, 0, none⟩ 0 = at_ b 0 from rfl, cell_of_blk h]; exact hj

/-- 'append([]uint64{}, xs...)'. -/
theorem wp_joinU {w : World} {o : Oper} {a : Act} {K : Act → World → Prop} {Q : Exit → Act → World → Prop} (s x : Operand) (ho : o.op = .call { callee := .builtin .append, args := #[s, x], argTypes := #[32, 32] })
    (g : Nat) (hs : a.eval s = .slice (some ⟨g, 0, none⟩) 0 0) (hg : w.heap[g]? = some (.cells #[] 63 (0, 0))) (xv : Value) (hx : a.eval x = xv) (xs : List Nat) (hk : Reads w xv xs) (hl : xs.length ≤ 100000) (base : Nat) (hb : base ≤ g)
    (h : ∀ v' w', RowsAt w' base v' xs → Ext Nope w w' → (∃ k c, v' = .slice (some ⟨k, 0, none⟩) xs.length c) → K (a.put o.dst v') w') : o.wp Tryd.prog a w K Q := by
  obtain ⟨j63, hi, hz0, hz1, hz2⟩ := info_parts info63
  have hglt := lt_of_heap hg
  obtain ⟨av, cx, hv, hc1, hc2, hr⟩ := hk
  rcases Nat.eq_zero_or_pos xs.length with h0 | h0
  · have hxs : xs = [] := List.eq_nil_of_length_eq_zero h0
    subst hxs
    have hown : RowsAt w base (.slice (some ⟨g, 0, none⟩) 0 0) [] := ⟨rfl, .inr ⟨g, 0, #[], rfl, hb, hg, Nat.le_refl _, by unfold maxLen; omega, rfl, rfl⟩⟩
    have hrun : ∀ ty, (Builtin.append_ #[32, 32] ty #[.slice (some ⟨g, 0, none⟩) 0 0, .slice av ([] : List Nat).length cx]).run Tryd.prog w = .ok (.slice (some ⟨g, 0, none⟩) 0 0) w := fun ty => by
      cases av <;> simp [Builtin.append_, run_underlying Tryd.underlying32, sizeOf, typeInfo, hi, Builtin.lenOf, Builtin.firstCells, storeCells, loadCells, loadCellsFrom]
    unfold Oper.wp execOp
    simp only [ho, resolve, invoke, builtin, Sem.run_bind, Sem.run_pure, Result.andThen_ok, List.map_toArray, List.map_cons, List.map_nil, hs, hx, hv, hrun]
    exact h _ _ hown (Ext.refl _ _) ⟨g, 0, rfl⟩
  · obtain ⟨b, off, rfl, hbl, hc⟩ := hr h0
    have hcells : ∀ (j : Nat) (u : Value), (rowCells xs)[j]? = some u → w.cell? (Addr.add ⟨b, off, none⟩ j) = some u := by
      intro j u hj
      have hadd : Addr.add ⟨b, off, none⟩ j = ⟨b, off + j, none⟩ := by unfold Addr.add; split <;> simp_all
      rw [hadd]
      unfold rowCells at hj
      rw [List.getElem?_map] at hj
      cases hx' : xs[j]? with
      | none => rw [hx'] at hj; simp at hj
      | some y => rw [hx'] at hj; simp at hj; rw [← hj]; exact hc j y hx'
    obtain ⟨v', w', hrun, r1, r2⟩ := run_append_arg_grows (P := Tryd.prog) w 32 o.type 63 j63 _ 1 8 Tryd.underlying32 hi hz0 hz1 hz2 rfl (by decide) ⟨g, 0, none⟩ 0 0 [] rfl (fun j u hu => by simp at hu) ⟨b, off, none⟩ xs.length cx (rowCells xs) (by rw [rowCells_length]; omega) hcells (by omega) (by unfold maxLen; omega) (by omega)
    unfold Oper.wp execOp
    simp only [ho, resolve, invoke, builtin, Sem.run_bind, Sem.run_pure, Result.andThen_ok, List.map_toArray, List.map_cons, List.map_nil, hs, hx, hv, hrun]
    rw [Nat.zero_add, List.nil_append] at r1
    refine h v' w' (RowsAt.mono r1 (by omega)) ((Ext.refl _ w).grown r2 (fun k hk => by cases hk)) ?_
    obtain ⟨av', c', hv', _, _, h3⟩ := own_gen r1
    obtain ⟨g', rfl⟩ := h3 h0
    exact ⟨g', c', hv'⟩

/-- What a copy of rows is. -/
def CopyOf (w : World) (xs : List Nat) (e : Ending) (w' : World) : Prop := ∃ u, e = .returned u ∧ RowsAt w' w.heap.size u xs ∧ Ext Nope w w'

/-- slices.Clone -/
theorem clone_calls {w : World} {v : Value} {xs : List Nat} (h : Reads w v xs) (hl : xs.length ≤ 100000) : Calls Tryd.prog 37 #[v] w (CopyOf w xs) := by
  have H := toHid h
  have hnil : ∀ (W : World) (a : Option Addr) (n c : Nat), (binOp .eql 32 (.slice a n c) (.slice none 0 0)).run Tryd.prog W = .ok (.bool a.isNone) W := fun W a n c => Lib.run_eql_slice_nil W 32 63 a n c 0 0 Tryd.underlying32
  obtain ⟨av, cap, rfl, h1, h2, h3⟩ := h
  cases av with
  | none =>
    have h0 : xs = [] := by
      cases xs with
      | nil => rfl
      | cons x xs => obtain ⟨b, off, hb, _⟩ := h3 (by simp); cases hb
    subst h0
    clear h1 h2 h3 H hl
    go_enter Tryd.func37, Tryd.ntmps37
    go_wp2
    go_ret
    exact ⟨_, rfl, World.ownsRow_nil _ _ _ _, Ext.refl _ _⟩
  | some ad =>
    clear h3 h1 h2
    go_enter Tryd.func37, Tryd.ntmps37
    go_wp2_with (first | (at_builtin; refine wpList_take (by rfl) (fun K hK => ?_); refine wp_joinU (.tmp 5) (.tmp 6) rfl w.heap.size rfl (heap_alloc_new w _) _ rfl xs (H.out.ext0 ((Ext.refl _ _).alloc _)) hl w.heap.size (Nat.le_refl _) ?_))
    intro v' w' hr he _ _ hv
    refine hK _ _ ?_
    clear H hv
    go_wp2
    go_ret
    exact ⟨_, rfl, hr, ext0 ((Ext.refl _ _).alloc _) he⟩

theorem Reads.take {w : World} {a : Option Addr} {n cap : Nat} {xs : List Nat} (h : Reads w (.slice a n cap) xs) (k : Nat) (hk : k ≤ n) : Reads w (.slice a k cap) (xs.take k) := by
  obtain ⟨a', cap', hv, h1, h2, h3⟩ := h
  injection hv with e1 e2 e3
  subst e1 e2 e3
  have hl : (xs.take k).length = k := by rw [List.length_take]; omega
  refine ⟨a, cap, by rw [hl], by omega, h2, fun h0 => ?_⟩
  obtain ⟨b, off, ha, hb, hc⟩ := h3 (by omega)
  refine ⟨b, off, ha, hb, fun j x hj => hc j x ?_⟩
  rw [List.getElem?_take] at hj
  split at hj
  · exact hj
  · cases hj
section
attribute [local go_sem ↓] run_mn run_mx
/-- abugidalaw33.few -/
theorem few_calls {w : World} {v : Value} {xs : List Nat} (h : Reads w v xs) : Calls Tryd.prog 20 #[v] w (CopyOf w (xs.take 66)) := by
  have H := toHid h
  obtain ⟨av, cap, hv, h1, h2, h3⟩ := h
  obtain ⟨n, HN⟩ : ∃ n, Hid (xs.length = n) := ⟨_, rfl⟩
  rw [HN.out] at hv h1
  subst hv
  have hl : (xs.take 66).length ≤ 100000 := by rw [List.length_take]; omega
  clear h3
  by_cases h66 : n ≤ 66
  · have hm : mnI (n : Int) 66 = (n : Int) := by unfold mnI; rw [if_neg (by omega)]
    have hr := H.out.take n (Nat.le_refl _)
    rw [show xs.take n = xs.take 66 by rw [List.take_of_length_le (by rw [HN.out]; exact Nat.le_refl _), List.take_of_length_le (by rw [HN.out]; exact h66)]] at hr
    have HR := toHid hr
    clear hr H
    go_enter Tryd.func20, Tryd.ntmps20
    go_wp2_with (first | (at_builtin; refine wpList_take (by rfl) (fun K hK => ?_); refine wp_joinU (.tmp 3) (.tmp 8) rfl w.heap.size rfl (heap_alloc_new w _) _ rfl (xs.take 66) (HR.out.ext0 ((Ext.refl _ _).alloc _)) hl w.heap.size (Nat.le_refl _) ?_))
    intro v' w' hr he _ _ hv
    refine hK _ _ ?_
    clear HR hv
    go_wp2
    go_ret
    exact ⟨_, rfl, hr, ext0 ((Ext.refl _ _).alloc _) he⟩
  · have hm : mnI (n : Int) 66 = 66 := by unfold mnI; rw [if_pos (by omega)]
    have hr := H.out.take 66 (by omega)
    have HR := toHid hr
    clear hr H
    go_enter Tryd.func20, Tryd.ntmps20
    go_wp2_with (first | (at_builtin; refine wpList_take (by rfl) (fun K hK => ?_); refine wp_joinU (.tmp 3) (.tmp 8) rfl w.heap.size rfl (heap_alloc_new w _) _ rfl (xs.take 66) (HR.out.ext0 ((Ext.refl _ _).alloc _)) hl w.heap.size (Nat.le_refl _) ?_))
    intro v' w' hr he _ _ hv
    refine hK _ _ ?_
    clear HR hv
    go_wp2
    go_ret
    exact ⟨_, rfl, hr, ext0 ((Ext.refl _ _).alloc _) he⟩
end

end Go.Proofs.YtmmcadbkmfjcbaaDoor
