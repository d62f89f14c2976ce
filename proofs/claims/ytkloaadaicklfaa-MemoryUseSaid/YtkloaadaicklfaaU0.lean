/-
  Using a key makes it the last one; put again it gives up nothing: in plain lists. Two laws on append of keys.
-/
import Derived.Test.YtkloaadaicklfaaQ0
import Derived.ArgAppend
import Derived.OwnWalk
namespace Go.Proofs.Ytkloaadaicklfaa
open Go.RowKit

theorem rest_split {xs a b : List Kept} {x : Kept} (hn : (keysK xs).Nodup) (h : xs = a ++ x :: b) : restK x.key xs = a ++ b := by
  subst h
  simp only [keysK, List.map_append, List.map_cons, List.nodup_append, List.nodup_cons] at hn
  obtain ⟨_, ⟨h1, _⟩, h2⟩ := hn
  unfold restK
  rw [List.filter_append, List.filter_cons]
  have e1 : a.filter (fun y => decide (y.key ≠ x.key)) = a := List.filter_eq_self.2 fun y hy => by
    have := h2 y.key (List.mem_map.2 ⟨y, hy, rfl⟩) x.key (by simp)
    simpa using this
  have e2 : b.filter (fun y => decide (y.key ≠ x.key)) = b := List.filter_eq_self.2 fun y hy => by
    have : y.key ≠ x.key := fun e => h1 (e ▸ List.mem_map.2 ⟨y, hy, rfl⟩)
    simpa using this
  rw [e1, e2]
  simp
theorem use_split {xs a b : List Kept} {x : Kept} (hn : (keysK xs).Nodup) (h : xs = a ++ x :: b) : useA xs x.key = (true, a ++ b ++ [x]) := by
  unfold useA
  rw [getK_of_mem hn (by rw [h]; simp), rest_split hn h]
theorem used_move (a b : List Kept) (x : Kept) : usedOf (a ++ b ++ [x]) = usedOf (a ++ x :: b) := by
  simp [usedOf]; omega
theorem pinned_le {xs : List Kept} (h : ∀ x ∈ xs, 0 ≤ x.size ∧ x.size ≤ 65536) : pinnedOf xs ≤ usedOf xs := by
  induction xs with
  | nil => simp [pinnedOf, usedOf]
  | cons x xs ih =>
    have := ih fun y hy => h y (List.mem_cons_of_mem _ hy)
    have hx := h x (by simp)
    rw [pinnedOf_cons, usedOf_cons]
    unfold pinOf
    split <;> omega
theorem evict_fits {B u : Int} (r : List Kept) (h : u ≤ B) : evictK B u r = ([], r) := by
  cases r with
  | nil => rfl
  | cons p r => simp only [evictK]; rw [if_neg (by omega)]
/-- A key that is put again with its size gives up nothing. -/
theorem put_again {B : Int} {ys a b : List Kept} {x : Kept} (hk : KOk B ys) (h : ys = a ++ b ++ [x]) : putA B ys x.key x.size = ([], 0, ys) := by
  have hs := hk.size x (by rw [h]; simp)
  have hr : restK x.key ys = a ++ b := by
    have := rest_split (xs := ys) (a := a ++ b) (b := []) hk.keys h
    simpa using this
  have hu := hk.used
  rw [h, usedOf_append] at hu
  have h1 : usedOf [x] = x.size := by simp [usedOf]
  rw [h1] at hu
  have hp := pinned_le (xs := a ++ b) (fun y hy => hk.size y (by rw [h]; exact List.mem_append_left _ hy))
  unfold putA
  rw [if_neg (by omega), hr, if_neg (by omega), evict_fits _ (by omega)]
  have hf : pinFlag ys x.key = x.pinned := by
    unfold pinFlag
    rw [getK_of_mem hk.keys (by rw [h]; simp)]
  rw [hf, h]

/-- What is wanted of the first j keys. -/
def wantK (ks : List Own) (k j : Nat) : List Own := (ks.take j).eraseIdx k
theorem wantK_zero (ks : List Own) (k : Nat) : wantK ks k 0 = [] := by simp [wantK]
theorem wantK_same {ks a b : List Own} {y : Own} {k : Nat} (h : ks = a ++ y :: b) (hl : a.length = k) : wantK ks k (k + 1) = wantK ks k k := by
  unfold wantK
  obtain ⟨h1, h2⟩ := take_len h hl
  rw [h1, h2, List.eraseIdx_append_of_length_le (by omega), show k - a.length = 0 by omega, List.eraseIdx_of_length_le (l := a) (by omega)]
  simp
theorem wantK_snoc {ks a b : List Own} {y : Own} {k j : Nat} (h : ks = a ++ y :: b) (hl : a.length = j) (hj : j ≠ k) : wantK ks k (j + 1) = wantK ks k j ++ [y] := by
  unfold wantK
  obtain ⟨h1, h2⟩ := take_len h hl
  rw [h1, h2]
  rcases Nat.lt_or_ge k j with g | g
  · rw [List.eraseIdx_append_of_lt_length (by omega)]
  · rw [List.eraseIdx_of_length_le (by simp; omega), List.eraseIdx_of_length_le (by omega)]
theorem wantK_end {ks a b : List Own} {y : Own} {k j : Nat} (h : ks = a ++ y :: b) (hl : a.length = k) (hj : ks.length = j) : wantK ks k j = a ++ b := by
  unfold wantK
  rw [← hj, List.take_length, h, List.eraseIdx_append_of_length_le (by omega)]
  simp [hl]
theorem wantK_len (ks : List Own) (k j : Nat) : (wantK ks k j).length ≤ ks.length := by
  unfold wantK
  have h1 := List.length_eraseIdx_le (ks.take j) k
  have h2 := List.length_take_le' j ks
  omega

theorem heap_alloc_at (w : World) (o : Obj) (k : Nat) (h : k = w.heap.size) : (w.alloc o).heap[k]? = some o := by subst h; exact heap_alloc_new w o

theorem KeysAt.base {w : World} {b b' : Nat} {v : Value} {ks : List Own} (h : KeysAt w b v ks) (hb : ∀ g, v.ownBlock = some g → b' ≤ g) : KeysAt w b' v ks := by
  obtain ⟨h1, h2⟩ := h
  refine ⟨h1, h2.imp id ?_⟩
  rintro ⟨g, cap, cur, hv, _, rest⟩
  exact ⟨g, cap, cur, hv, hb g (by rw [hv]; rfl), rest⟩
theorem keys_at {w : World} {base g n cap : Nat} {ks : List Own} (h : KeysAt w base (.slice (some ⟨g, 0, none⟩) n cap) ks) : ∀ (j : Nat) (u : Value), (keyCells ks)[j]? = some u → w.cell? (Addr.add ⟨g, 0, none⟩ j) = some u := by
  intro j u hj
  obtain ⟨_, ⟨hv, _⟩ | ⟨g', cap', cur, hv, _, hg, h1, h2, h3, h4⟩⟩ := h
  · cases hv
  · cases hv
    have hadd : Addr.add ⟨g, 0, none⟩ j = ⟨g, j, none⟩ := by unfold Addr.add; split <;> simp_all
    rw [hadd, show (⟨g, j, none⟩ : Addr) = at_ g j from rfl, cell_of_blk hg]
    rw [← h4, List.getElem?_take] at hj
    split at hj
    · simpa using hj
    · cases hj
theorem keys_one (ks : List Own) : ∀ u ∈ keyCells ks, u.oneCell' = true := by
  intro u hu
  obtain ⟨x, _, hx⟩ := List.mem_flatMap.1 hu
  simp at hx
  rcases hx with rfl | rfl | rfl | rfl <;> rfl

/-- 'append([]api.Owned{}, want...)'. -/
theorem wp_joinK {w : World} {o : Oper} {a : Act} {K : Act → World → Prop} {Q : Exit → Act → World → Prop} (s x : Operand) (ho : o.op = .call { callee := .builtin .append, args := #[s, x], argTypes := #[43, 43] })
    (g : Nat) (hs : a.eval s = .slice (some ⟨g, 0, none⟩) 0 0) (hg : w.heap[g]? = some (.cells #[] 34 (0, 0))) (xv : Value) (hx : a.eval x = xv) (bx : Nat) (ks : List Own) (hk : KeysAt w bx xv ks) (hl : ks.length ≤ 1000)
    (h : ∀ v' w', KeysAt w' 0 v' ks → Ext Nope w w' → (∀ k, v'.ownBlock = some k → (ks = [] ∧ v' = .slice (some ⟨k, 0, none⟩) 0 0) ∨ w.heap.size ≤ k) → K (a.put o.dst v') w') : o.wp Try.prog a w K Q := by
  obtain ⟨j34, hi, hz0, hz1, hz2⟩ := info_parts info34
  have hown : w.ownsRow 0 34 4 (.slice (some ⟨g, 0, none⟩) 0 0) 0 [] := ⟨rfl, .inr ⟨g, 0, #[], rfl, Nat.zero_le _, hg, Nat.le_refl _, by unfold maxLen; omega, rfl, rfl⟩⟩
  rcases keysAt_shape hk with ⟨rfl, rfl⟩ | ⟨gx, cx, rfl, hc1, hc2⟩
  · have hrun : ∀ ty, (Builtin.append_ #[43, 43] ty #[.slice (some ⟨g, 0, none⟩) 0 0, .slice none 0 0]).run Try.prog w = .ok (.slice (some ⟨g, 0, none⟩) 0 0) w := fun ty => by
      simp [Builtin.append_, run_underlying Try.underlying43, sizeOf, typeInfo, hi, Builtin.lenOf, Builtin.firstCells, storeCells]
    unfold Oper.wp execOp
    simp only [ho, resolve, invoke, builtin, Sem.run_bind, Sem.run_pure, Result.andThen_ok, List.map_toArray, List.map_cons, List.map_nil, hs, hx, hrun]
    exact h _ _ hown (Ext.refl _ _) fun k hk => .inl ⟨rfl, by simp only [Value.ownBlock, Option.some.injEq] at hk; subst hk; rfl⟩
  · by_cases h0 : ks = []
    · subst h0
      have hrun : ∀ ty, (Builtin.append_ #[43, 43] ty #[.slice (some ⟨g, 0, none⟩) 0 0, .slice (some ⟨gx, 0, none⟩) ([] : List Own).length cx]).run Try.prog w = .ok (.slice (some ⟨g, 0, none⟩) 0 0) w := fun ty => by
        simp [Builtin.append_, run_underlying Try.underlying43, sizeOf, typeInfo, hi, Builtin.lenOf, Builtin.firstCells, storeCells, loadCells, loadCellsFrom]
      unfold Oper.wp execOp
      simp only [ho, resolve, invoke, builtin, Sem.run_bind, Sem.run_pure, Result.andThen_ok, List.map_toArray, List.map_cons, List.map_nil, hs, hx, hrun]
      exact h _ _ hown (Ext.refl _ _) fun k hk => .inl ⟨rfl, by simp only [Value.ownBlock, Option.some.injEq] at hk; subst hk; rfl⟩
    · have hpos : 0 < ks.length := List.length_pos_iff.2 h0
      obtain ⟨v', w', hrun, r1, r2⟩ := run_append_arg_grows (P := Try.prog) w 43 o.type 34 j34 _ 4 32 Try.underlying43 hi hz0 hz1 hz2 rfl (by decide) ⟨g, 0, none⟩ 0 0 [] rfl (fun j u hu => by simp at hu) ⟨gx, 0, none⟩ ks.length cx (keyCells ks) (keyCells_length ks) (keys_at hk) (by omega) (by unfold maxLen; omega) (by omega)
      unfold Oper.wp execOp
      simp only [ho, resolve, invoke, builtin, Sem.run_bind, Sem.run_pure, Result.andThen_ok, List.map_toArray, List.map_cons, List.map_nil, hs, hx, hrun]
      rw [Nat.zero_add, List.nil_append] at r1
      exact h v' w' (KeysAt.base (b := w.heap.size) r1 (fun _ _ => Nat.zero_le _)) ((Ext.refl _ w).grown r2 (fun k hk => by cases hk)) fun k hk => .inr (World.ownsRow.lt r1 k hk).1
/-- 'append(.., x.Key)'. -/
theorem wp_snocK {w : World} {o : Oper} {a : Act} {K : Act → World → Prop} {Q : Exit → Act → World → Prop} (s x : Operand) (ho : o.op = .call { callee := .builtin .append, args := #[s, x], argTypes := #[43, 43] })
    (v : Value) (hs : a.eval s = v) (ks : List Own) (hk : KeysAt w 0 v ks) (hl : ks.length ≤ 1000) (b : Nat) (hx : a.eval x = .slice (some ⟨b, 0, none⟩) 1 1) (y : Own) (hb : w.heap[b]? = some (.cells (ownCells y) 34 (0, 0)))
    (T : Nat → Prop) (hT : ∀ k, v.ownBlock = some k → (ks = [] ∧ v = .slice (some ⟨k, 0, none⟩) 0 0) ∨ T k)
    (h : ∀ v' w', KeysAt w' 0 v' (ks ++ [y]) → Ext T w w' → K (a.put o.dst v') w') : o.wp Try.prog a w K Q := by
  obtain ⟨j34, hi, hz0, hz1, hz2⟩ := info_parts info34
  have hk' := hk
  by_cases hc : ∃ g, v = .slice (some ⟨g, 0, none⟩) 0 0 ∧ ks = []
  · obtain ⟨g, rfl, rfl⟩ := hc
    obtain ⟨v', w', hrun, r1, r2⟩ := run_append_arg_grows (P := Try.prog) w 43 o.type 34 j34 _ 4 32 Try.underlying43 hi hz0 hz1 hz2 rfl (by decide) ⟨g, 0, none⟩ 0 0 [] rfl (fun j u hu => by simp at hu) ⟨b, 0, none⟩ 1 1 (keyCells [y]) rfl (keyCells_at hb) (by omega) (by unfold maxLen; omega) (by omega)
    unfold Oper.wp execOp
    simp only [ho, resolve, invoke, builtin, Sem.run_bind, Sem.run_pure, Result.andThen_ok, List.map_toArray, List.map_cons, List.map_nil, hs, hx, hrun]
    exact h v' w' (KeysAt.base (b := w.heap.size) (KeysAt.snoc (ks := []) r1) (fun _ _ => Nat.zero_le _)) ((Ext.refl _ w).grown r2 (fun k hk => by cases hk))
  · obtain ⟨v', w', hrun, r1, r2, _⟩ := run_append_own (P := Try.prog) w 0 43 o.type 34 j34 _ 4 32 Try.underlying43 hi hz0 hz1 hz2 rfl (by decide) v ks.length (keyCells ks) hk ⟨b, 0, none⟩ 1 1 (keyCells [y]) rfl (keyCells_at hb) (keyCells_oneCell y) (by unfold maxLen; omega) (by omega) (Nat.zero_le _)
    unfold Oper.wp execOp
    simp only [ho, resolve, invoke, builtin, Sem.run_bind, Sem.run_pure, Result.andThen_ok, List.map_toArray, List.map_cons, List.map_nil, hs, hx, hrun]
    refine h v' w' (KeysAt.snoc r1) ((Ext.refl _ w).grown r2 fun k hk _ => ?_)
    rcases hT k hk with ⟨h1, h2⟩ | h1
    · exact absurd ⟨k, h2, h1⟩ hc
    · exact h1

end Go.Proofs.Ytkloaadaicklfaa
