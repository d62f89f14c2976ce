/-
  bound.Prove of two programs.
-/
import Derived.Test.YtajebdpalnpjdaaGreatDoorM21
namespace Go.Proofs.YtajebdpalnpjdaaGreatDoor
open Go.RowKit
attribute [local go_sem] alloc_drewN setCell_drewN

theorem made_none (W : World) : (Instr.makeSlice 131 (.int .i64 0) (.int .i64 0)).run Tryz.prog W = .ok (.slice (some ⟨W.heap.size, 0, none⟩) 0 0) (W.alloc (.cells #[] 22)) := by
  obtain ⟨i0, hi, hz0, hz1, hz2⟩ := info_parts infoTwo
  have := Go.run_make (P := Tryz.prog) W 131 22 i0 _ Tryz.underlying131 hi hz0 .i64 .i64 0 0 (by omega) (by omega) (by rw [hz2]; omega) (by omega)
  simp only [Int.toNat_zero, Nat.zero_mul] at this
  rw [show madeCells (Value.agg #[.int .i64 0, .int .i64 0]).cells 0 = #[] from by simp [madeCells]] at this
  exact this
set_option maxRecDepth 100000 in
set_option maxHeartbeats 2000000 in
/-- slices.Repeat, not at all -/
theorem repeat_none {w : World} {xb : Nat} (hx : xb < w.heap.size) : Calls Tryz.prog 89 #[.slice (some ⟨xb, 0, none⟩) 1 1, .int .i64 0] w fun e w' => ∃ g, e = .returned (.slice (some ⟨g, 0, none⟩) 0 0) ∧ Ext Nope w w' := by
  have HMul := toHid (show ∀ W, Calls Tryz.prog 176 #[.int .u64 1, .int .u64 0] W (fun e w' => e = .returned (.tuple #[.int .u64 0, .int .u64 0]) ∧ W = w') from fun W => (Tryz.bits_Mul 1 0 (by omega) (by omega) W).mono fun e w' ⟨he, hw⟩ => ⟨by rw [he]; rfl, hw.symm⟩)
  have hmk := made_none
  have HG := toHid (heap_alloc_new w (.cells #[] 22))
  go_enter Tryz.func89, Tryz.ntmps89
  go_wp2_with fail
  refine (HMul.out _).mono ?_
  rintro e w2 ⟨rfl, rfl⟩
  go_wp2_with (refine wl_copy rfl (.tmp 31) (.tmp 32) 131 131 22 2 16 _ rfl Tryz.underlying131 infoTwo w.heap.size 0 0 0 ⟨xb, 0, none⟩ 1 1 rfl rfl [] HG.out [] rfl (fun j v hj => by simp at hj) (by simp) (fun v hv => by cases hv) ?_; intro w3 hG3 e3)
  have H3 := toHid (((Ext.refl Nope w).alloc (.cells #[] 22)).trans e3 (fun b hb z => by have z : b = w.heap.size := z; omega))
  clear hG3 e3
  go_loopw [8] (fun i wr => i = .int .i64 0 ∧ wr = w3) (fun _ _ => 0)
  case atStart => exact ⟨rfl, rfl⟩
  case round =>
    obtain ⟨rfl, hw⟩ := hrel
    have hw := hw.symm
    subst hw
    go_wp2_with fail
    go_ret
    exact ⟨⟨_, rfl⟩, H3.out⟩
theorem ent_ranges : Enters 290 := enters_of Tryz.func290 (by kernel_rfl) rfl
theorem rd_none (w : World) (a : Option Addr) (sz : Nat) : Rd (fun _ => True) w [.slice a 0 0] (.l sz []) :=
  .list (xs := []) a 0 0 0 (fun _ => []) (Nat.le_refl _) (by omega) (fun h => absurd h (by simp)) (fun _ _ h => by simp at h) (fun _ _ h => by simp at h) (fun _ _ h => by simp at h)
set_option maxHeartbeats 1000000 in
/-- axes.Ranges of nothing -/
theorem ranges_none (a : Option Addr) (w : World) : Calls Tryz.prog 226 #[.slice a 0 0, .int .i64 0] w fun e w' => e = .returned (.bool true) ∧ Ext Nope w w' := by
  have HH := toHid (has_pairs2 (w := w) (p := fun _ => false) ent_ranges (rd_none w a 2) (caps := #[]) (fun k W u hk hE hu => absurd hk (Nat.not_lt_zero _)))
  go_enter Tryz.func226, Tryz.ntmps226
  go_wp2_with fail
  refine HH.out.mono ?_
  rintro e w2 ⟨rfl, e2⟩
  rw [show anyN (fun _ => false) ([] : List Dat).length = false from rfl]
  go_wp2_with fail
  go_ret
  exact ⟨rfl, e2⟩
set_option maxHeartbeats 1000000 in
/-- bound.ranged -/
theorem ranged_none (a : Option Addr) (w : World) : Calls Tryz.prog 177 #[.agg #[.int .i64 4, .int .i64 32], .slice a 0 0] w fun e w' => e = .returned (.bool true) ∧ Ext Nope w w' := by
  have HR := toHid (ranges_none a (w.alloc (.cells #[.int .i64 4, .int .i64 32] 22)))
  go_enter Tryz.func177, Tryz.ntmps177
  go_wp2_with fail
  refine HR.out.mono ?_
  rintro e w2 ⟨rfl, e2⟩
  go_wp2_with fail
  go_ret
  exact ⟨rfl, ext0 ((Ext.refl _ _).alloc _) e2⟩
/-- Points of one box each. -/
def ptsCells (k : Nat) : List Value := (List.replicate k [Value.int .i64 (-20480), .int .i64 20480, .int .i64 (-20480), .int .i64 20480]).flatten
theorem ptsCells_add (k : Nat) : ptsCells k ++ [Value.int .i64 (-20480), .int .i64 20480, .int .i64 (-20480), .int .i64 20480] = ptsCells (k + 1) := by
  unfold ptsCells
  rw [show k + 1 = k + 1 from rfl, List.replicate_succ', List.flatten_append]
  simp
def OwnQ (w : World) (base : Nat) (v : Value) (k : Nat) : Prop := w.ownsRow base 269 4 v k (ptsCells k)
abbrev boxPat : List Value := [.int .i64 (-20480), .int .i64 (-20480), .int .i64 20480, .int .i64 20480]
theorem box_at {w : World} {b n k : Nat} (h : w.heap[b]? = some (.cells (rep boxPat z4 n 0).toArray 164 (0, 0))) (hk : k < n) : w.cell? ⟨b, k * 4, none⟩ = some (.int .i64 (-20480)) ∧ w.cell? ⟨b, k * 4 + 1, none⟩ = some (.int .i64 (-20480)) ∧ w.cell? ⟨b, k * 4 + 2, none⟩ = some (.int .i64 20480) ∧ w.cell? ⟨b, k * 4 + 3, none⟩ = some (.int .i64 20480) := by
  have hl : rep boxPat z4 n 0 = (List.replicate k boxPat).flatten ++ (boxPat ++ (List.replicate (n - k - 1) boxPat).flatten) := by
    unfold rep
    rw [List.replicate_zero, List.flatten_nil, List.append_nil]
    have : List.replicate n boxPat = List.replicate k boxPat ++ (boxPat :: List.replicate (n - k - 1) boxPat) := by
      rw [← List.replicate_succ, List.replicate_append_replicate]
      congr 1
      omega
    rw [this, List.flatten_append, List.flatten_cons]
  have get : ∀ j, j < 4 → w.cell? ⟨b, k * 4 + j, none⟩ = boxPat[j]? := fun j hj => by
    rw [show (⟨b, k * 4 + j, none⟩ : Addr) = at_ b (k * 4 + j) from rfl, cell_of_blk h, List.getElem?_toArray, hl, List.getElem?_append_right (by rw [flat_len]; simp), flat_len, show k * 4 + j - k * boxPat.length = j by simp, List.getElem?_append_left hj]
  exact ⟨get 0 (by omega), get 1 (by omega), get 2 (by omega), get 3 (by omega)⟩
theorem cell4 {W : World} {bb T : Nat} {x0 x1 x2 x3 : Value} (h : W.heap[bb]? = some (.cells #[x0, x1, x2, x3] T (0, 0))) : W.cell? ⟨bb, 0, none⟩ = some x0 ∧ W.cell? ⟨bb, 1, none⟩ = some x1 ∧ W.cell? ⟨bb, 2, none⟩ = some x2 ∧ W.cell? ⟨bb, 3, none⟩ = some x3 := by
  refine ⟨?_, ?_, ?_, ?_⟩ <;> (rw [show ∀ b j, (⟨b, j, none⟩ : Addr) = at_ b j from fun _ _ => rfl, cell_of_blk h]; rfl)
def ProveIs (w : World) (ec : Int) (e : Ending) (w' : World) : Prop := (∃ a b, e = .returned (.tuple #[.agg #[.int .i64 a, .int .i64 b], .int .i64 ec])) ∧ Ext Nope w w'
set_option maxRecDepth 100000 in
set_option maxHeartbeats 8000000 in
/-- bound.Prove -/
theorem prove_calls {w : World} {gp n : Nat} {a : Option Addr} {p : Value} {prog : List (Int × Int)} {ec : Int} (hg : w.heap[gp]? = some (.cells (rep boxPat z4 n 0).toArray 164 (0, 0))) (h1 : 2 ≤ n ∨ ec ≠ 0) (h2 : n ≤ 40) (hl : prog.length ≤ 60) (hp : Rd (fun _ => True) w [p] (.l 2 (prog.map pairD)))
    (hC : ∀ W, Ext Nope w W → Calls Tryz.prog 179 #[p, .int .i64 0, .int .i64 n] W fun e w' => e = .returned (.int .i64 ec) ∧ Ext Nope W w') (hcase : ec ≠ 0 ∨ (ec = 0 ∧ prog = progA)) :
    Calls Tryz.prog 90 #[p, .slice (some ⟨gp, 0, none⟩) n n, .agg #[.int .i64 4, .int .i64 32], .slice a 0 0] w (ProveIs w ec) := by
  obtain ⟨ap, cp, hv, hcp, hcp2⟩ := hp.len
  rw [List.length_map] at hv hcp
  obtain ⟨np, HNP⟩ : ∃ np, Hid (prog.length = np) := ⟨_, rfl⟩
  rw [HNP.out] at hv hcp hl
  subst hv
  have HG := toHid hg
  have HP := toHid hp
  have HC := toHid hC
  have HCase := toHid hcase
  have HRg := toHid (fun W => ranged_none a W)
  have n1 : ¬ (40 : Int) < (n : Int) := by omega
  have HH1 := toHid h1
  have hgl := lt_of_heap hg
  clear hg hp hC hcase h1
  go_enter Tryz.func90, Tryz.ntmps90
  go_wp2_with fail
  refine (HRg.out _).mono ?_
  rintro e w2 ⟨rfl, e2⟩
  have E2 : Ext Nope w w2 := ext0 (((Ext.refl Nope w).alloc _).alloc _) e2
  have hsb : w2.heap[w.heap.size]? = some (.cells #[.int .i64 4, .int .i64 32] 22 (0, 0)) := (e2.block _ (by simp; omega) (fun z => z)).trans ((heap_alloc_old _ _ _ (by simp)).trans (heap_alloc_new _ _))
  have hbb : w2.heap[w.heap.size + 1]? = some (.cells #[.int .i64 0, .int .i64 0] 167 (0, 0)) := (e2.block _ (by simp) (fun z => z)).trans (heap_alloc_at _ _ _ (by simp))
  have sb0 : w2.cell? ⟨w.heap.size, 0, none⟩ = some (.int .i64 4) := by rw [show (⟨w.heap.size, 0, none⟩ : Addr) = at_ w.heap.size 0 from rfl, cell_of_blk hsb]; rfl
  have sb1 : w2.cell? ⟨w.heap.size, 1, none⟩ = some (.int .i64 32) := by rw [show (⟨w.heap.size, 1, none⟩ : Addr) = at_ w.heap.size 1 from rfl, cell_of_blk hsb]; rfl
  obtain ⟨B, HB⟩ : ∃ B, Hid (w.heap.size + 1 = B) := ⟨_, rfl⟩
  rw [HB.out] at hbb
  have H2 := toHid (show _ ∧ _ from ⟨E2, hbb⟩)
  clear e2 E2 hsb hbb HRg
  go_wp2_with fail
  rw [HB.out]
  have hm3 : MB (w2.alloc (.cells (mcells (.slice ap np cp) (.slice none 0 0) (.slice none 0 0) 0 0) 267)) w2.heap.size (.slice ap np cp) (.slice none 0 0) (.slice none 0 0) 0 0 := heap_alloc_new w2 _
  have e3 : Ext Nope w2 (w2.alloc (.cells (mcells (.slice ap np cp) (.slice none 0 0) (.slice none 0 0) 0 0) 267)) := (Ext.refl _ _).alloc _
  obtain ⟨mb, HMb⟩ : ∃ mb, Hid (w2.heap.size = mb) := ⟨_, rfl⟩
  rw [HMb.out] at hm3 ⊢
  have hw3 : (w2.alloc (.cells (mcells (.slice ap np cp) (.slice none 0 0) (.slice none 0 0) 0 0) 267)).heap.size = mb + 1 := by rw [alloc_size2, HMb.out]
  generalize w2.alloc _ = w3 at *
  have hbl : B < w2.heap.size := lt_of_heap H2.out.2
  have H3 := toHid (show _ ∧ _ ∧ _ ∧ _ ∧ _ from ⟨hm3, (ext0 H2.out.1 e3 : Ext Nope w w3), (e3.block _ hbl (fun z => z)).trans H2.out.2, (by have := HMb.out; omega : B < mb), (by have := HMb.out; have := H2.out.1.size; omega : gp < mb)⟩)
  clear hm3 e3 hbl sb0 sb1
  go_loopw [34] (fun i wr => i = .int .i64 0 ∧ wr = w3) (fun _ _ => 0)
  case atStart => exact ⟨rfl, rfl⟩
  case round =>
    obtain ⟨rfl, hw⟩ := hrel
    have hw := hw.symm
    subst hw
    go_wp2_with fail
    go_loopw [51] (fun i wr => ∃ k : Nat, i = .int .i64 k ∧ k ≤ n ∧ (∃ v, MB wr mb (.slice ap np cp) (.slice none 0 0) v 0 0 ∧ OwnQ wr (mb + 1) v k) ∧ Ext (fun b => b = mb) w3 wr) (fun i _ => n - (intOf i).toNat)
    case atStart => exact ⟨0, rfl, Nat.zero_le _, ⟨_, H3.out.1, ⟨rfl, .inl ⟨rfl, rfl⟩⟩⟩, Ext.refl _ _⟩
    case round =>
      obtain ⟨k, rfl, hk, ⟨v, hm, ho⟩, hE⟩ := hrel
      rename World => wr
      obtain ⟨av, cv, hv, _⟩ := own_gen (show wr.ownsRow (mb + 1) 269 4 v k _ from ho)
      subst hv
      have hgr : wr.heap[gp]? = some (.cells (rep boxPat z4 n 0).toArray 164 (0, 0)) := (hE.block gp (Nat.lt_of_lt_of_le hgl H3.out.2.1.size) (fun z => by have := H3.out.2.2.2.2; have z : gp = mb := z; omega)).trans ((H3.out.2.1.block _ hgl (fun z => z)).trans HG.out)
      have HW := toHid (show _ ∧ _ ∧ _ from ⟨hm, ho, hE⟩)
      clear hm ho hE
      by_cases hkn : k < n
      · have q1 : (0 : Int) ≤ (k : Int) := by omega
        have q2 : (k : Int) < (n : Int) := by omega
        obtain ⟨c0, c1, c2, c3⟩ := box_at hgr hkn
        clear hgr
        have ea : Ext Nope wr ((wr.alloc (.cells #[.int .i64 (-20480), .int .i64 (-20480), .int .i64 20480, .int .i64 20480] 164)).alloc (.cells #[.int .i64 (-20480), .int .i64 20480, .int .i64 (-20480), .int .i64 20480] 269)) := ((Ext.refl _ _).alloc _).alloc _
        have ha1 : ((wr.alloc (.cells #[.int .i64 (-20480), .int .i64 (-20480), .int .i64 20480, .int .i64 20480] 164)).alloc (.cells #[.int .i64 (-20480), .int .i64 20480, .int .i64 (-20480), .int .i64 20480] 269)).heap[wr.heap.size]? = some (.cells #[.int .i64 (-20480), .int .i64 (-20480), .int .i64 20480, .int .i64 20480] 164 (0, 0)) := (heap_alloc_old _ _ _ (by simp)).trans (heap_alloc_new _ _)
        have ha2 : ((wr.alloc (.cells #[.int .i64 (-20480), .int .i64 (-20480), .int .i64 20480, .int .i64 20480] 164)).alloc (.cells #[.int .i64 (-20480), .int .i64 20480, .int .i64 (-20480), .int .i64 20480] 269)).heap[wr.heap.size + 1]? = some (.cells #[.int .i64 (-20480), .int .i64 20480, .int .i64 (-20480), .int .i64 20480] 269 (0, 0)) := heap_alloc_at _ _ _ (by simp)
        have HA := toHid (show _ ∧ _ ∧ _ from ⟨ea, ha1, ha2⟩)
        clear ea ha1 ha2
        go_wp2_with fail
        refine (span_small (-20480) 20480 (by omega) (by omega) _).mono ?_
        rintro e w5 ⟨rfl, e5⟩
        obtain ⟨X, HX⟩ : ∃ X, Hid (wr.heap.size = X) := ⟨_, rfl⟩
        have h51 := (e5.block _ (lt_of_heap HA.out.2.1) (fun z => z)).trans HA.out.2.1
        have h52 := (e5.block _ (lt_of_heap HA.out.2.2) (fun z => z)).trans HA.out.2.2
        rw [HX.out] at h51 h52 ⊢
        have H5 := toHid (show _ ∧ _ ∧ _ from ⟨ext0 HA.out.1 e5, h51, h52⟩)
        clear e5 HA
        obtain ⟨x0, x1, x2, x3⟩ := cell4 h51
        obtain ⟨y0, y1, y2, y3⟩ := cell4 h52
        clear h51 h52
        go_wp2_with fail
        refine (span_small (-20480) 20480 (by omega) (by omega) _).mono ?_
        rintro e w6 ⟨rfl, e6⟩
        have h61 := (e6.block _ (lt_of_heap H5.out.2.1) (fun z => z)).trans H5.out.2.1
        have h62 := (e6.block _ (lt_of_heap H5.out.2.2) (fun z => z)).trans H5.out.2.2
        have H6 := toHid (show _ ∧ _ from ⟨ext0 H5.out.1 e6, h62⟩)
        clear e6 x0 x1 x2 x3 y0 y1 y2 y3
        obtain ⟨x0, x1, x2, x3⟩ := cell4 h61
        obtain ⟨y0, y1, y2, y3⟩ := cell4 h62
        clear h61 h62
        go_wp2_with fail
        have hm6 := HW.out.1.ext H6.out.1 (fun z => z)
        have ho6 := own_ext HW.out.2.1 H6.out.1 (fun _ _ z => z)
        obtain ⟨m0, m4, m21, m22, m23⟩ := hm6.at
        have H7 := toHid (show MB w6.drew mb _ _ _ _ _ ∧ OwnQ w6.drew (mb + 1) _ _ ∧ Ext (fun b => b = mb) w3 w6.drew from ⟨hm6, ho6, (ext0 HW.out.2.2 H6.out.1).drew⟩)
        have hX1 : X + 1 < w6.drew.heap.size := lt_of_heap H6.out.2
        clear hm6 ho6
        refine wp_region_head 8 (fun w' => w'.cell? ⟨mb, 21, none⟩ = some (.slice av k cv) ∧ w'.cell? ⟨X + 1, 0, none⟩ = some (.int .i64 (-20480)) ∧ w'.cell? ⟨X + 1, 1, none⟩ = some (.int .i64 20480) ∧ w'.cell? ⟨X + 1, 2, none⟩ = some (.int .i64 (-20480)) ∧ w'.cell? ⟨X + 1, 3, none⟩ = some (.int .i64 20480)) (by kernel_rfl) (by kernel_rfl) ⟨m21, y0, y1, y2, y3⟩ (fun hO hHeld => ?_)
        generalize w6.drew = w7 at *
        refine wpAnyT_takeD (i := 0) (d := some 91) (v := ?_) hO rfl rfl (by kernel_rfl) (fun _ _ _ h => h) (Or.inl ⟨by rfl, ?_⟩) (by exact hHeld) ?_
        rotate_left
        · intro w' hSw
          obtain ⟨r0, r1, r2, r3, r4⟩ := hSw
          go_simp
          try (with_reducible rfl)
        try simp only [Act.put, List.setIfInBounds_toArray, List.set_cons_zero, List.set_cons_succ]
        refine wpAnyT_takeD (i := 1) (d := some 92) (v := ?_) hO rfl rfl (by kernel_rfl) (fun _ _ _ h => h) (Or.inl ⟨by rfl, ?_⟩) (by exact hHeld) ?_
        rotate_left
        · intro w' hSw
          obtain ⟨r0, r1, r2, r3, r4⟩ := hSw
          go_simp
          try (with_reducible rfl)
        try simp only [Act.put, List.setIfInBounds_toArray, List.set_cons_zero, List.set_cons_succ]
        refine wpAnyT_takeD (i := 2) (d := some 93) (v := ?_) hO rfl rfl (by kernel_rfl) (fun _ _ _ h => h) (Or.inl ⟨by rfl, ?_⟩) (by exact hHeld) ?_
        rotate_left
        · intro w' hSw
          obtain ⟨r0, r1, r2, r3, r4⟩ := hSw
          go_simp
          try (with_reducible rfl)
        try simp only [Act.put, List.setIfInBounds_toArray, List.set_cons_zero, List.set_cons_succ]
        refine wpAnyT_takeD (i := 3) (d := some 94) (v := ?_) hO rfl rfl (by kernel_rfl) (fun _ _ _ h => h) (Or.inl ⟨by rfl, ?_⟩) (by exact hHeld) ?_
        rotate_left
        · intro w' hSw
          obtain ⟨r0, r1, r2, r3, r4⟩ := hSw
          go_simp
          try (with_reducible rfl)
        try simp only [Act.put, List.setIfInBounds_toArray, List.set_cons_zero, List.set_cons_succ]
        refine wpAnyT_takeD (i := 4) (d := some 95) (v := ?_) hO rfl rfl (by kernel_rfl) (fun _ _ _ h => h) (Or.inl ⟨by rfl, ?_⟩) (by exact hHeld) ?_
        rotate_left
        · intro w' hSw
          obtain ⟨r0, r1, r2, r3, r4⟩ := hSw
          go_simp
          try (with_reducible rfl)
        try simp only [Act.put, List.setIfInBounds_toArray, List.set_cons_zero, List.set_cons_succ]
        refine wpAnyT_takeD (i := 5) (d := some 96) (v := ?_) hO rfl rfl (by kernel_rfl) (fun _ _ _ h => h) (Or.inl ⟨by rfl, ?_⟩) (by exact hHeld) ?_
        rotate_left
        · intro w' hSw
          obtain ⟨r0, r1, r2, r3, r4⟩ := hSw
          go_simp
          try (with_reducible rfl)
        try simp only [Act.put, List.setIfInBounds_toArray, List.set_cons_zero, List.set_cons_succ]
        refine wpAnyT_one (i := 6) rfl (by kernel_rfl) (by rfl) (fun K hK => ?_)
        go_simp
        have keep : ∀ (b j : Nat), b < w7.heap.size → (w7.alloc (.cells #[.int .i64 (-20480), .int .i64 20480, .int .i64 (-20480), .int .i64 20480] 269)).cell? ⟨b, j, none⟩ = w7.cell? ⟨b, j, none⟩ := fun b j h => World.cell?_of_block (w := w7) (heap_alloc_old w7 _ b h)
        have hmb7 : mb < w7.heap.size := H7.out.1.lt
        obtain ⟨g0, g1, g2, g3, g4⟩ := hHeld
        have hHeld2 := (⟨(keep mb 21 hmb7).trans g0, (keep _ 0 hX1).trans g1, (keep _ 1 hX1).trans g2, (keep _ 2 hX1).trans g3, (keep _ 3 hX1).trans g4⟩ : _ ∧ _ ∧ _ ∧ _ ∧ _)
        refine hK.out _ _ hHeld2 (fun _ => ?_)
        clear hK K
        try simp only [Act.put, List.setIfInBounds_toArray, List.set_cons_zero, List.set_cons_succ]
        refine wpAnyT_one (i := 7) rfl (by kernel_rfl) (by rfl) (fun K hK => ?_)
        obtain ⟨i0, hi, hz0, hz1, hz2⟩ := info_parts infoPoint
        refine wp_append_own _ (.tmp 95) (.tmp 97) 265 rfl (mb + 1) 269 i0 _ 4 32 Tryz.underlying265 hi hz0 hz1 hz2 rfl (by decide) _ _ _ rfl ((show w7.ownsRow (mb + 1) 269 4 (.slice av k cv) k (ptsCells k) from H7.out.2.1).alloc _) ⟨w7.heap.size, 0, none⟩ 1 1 [.int .i64 (-20480), .int .i64 20480, .int .i64 (-20480), .int .i64 20480] rfl rfl (four_at (heap_alloc_new w7 _)) (fun u hu => by simp at hu; rcases hu with rfl | rfl | rfl | rfl <;> rfl) (by unfold maxLen; omega) (by omega) (by simp; omega) ?_
        intro v' w8 hown' hgrow _
        obtain ⟨av', cv', hv', _⟩ := own_gen hown'
        subst hv'
        have hne : ¬ (Value.slice av k cv).ownBlock = some mb := fun z => by have := (World.ownsRow.lt H7.out.2.1 mb z).1; omega
        have e8 : Ext (fun b => (Value.slice av k cv).ownBlock = some b) w7 w8 := Ext.grown ((Ext.refl _ _).alloc _) hgrow (fun g hg _ => hg)
        have hm8 := H7.out.1.ext e8 hne
        have hX8 := e8.block (X + 1) hX1
        obtain ⟨d0, d4, d21, d22, d23⟩ := hm8.at
        have f21 := hm8.free 21
        rw [ptsCells_add] at hown'
        have H8 := toHid (show _ ∧ _ ∧ _ from ⟨hm8, (show OwnQ w8 (mb + 1) (.slice av' (k + 1) cv') (k + 1) from hown'), H7.out.2.2.trans e8 (fun b hb z => by have := (World.ownsRow.lt H7.out.2.1 b z).1; omega)⟩)
        have hXo : ¬ (Value.slice av k cv).ownBlock = some (X + 1) := fun z => by have := (World.ownsRow.lt HW.out.2.1 _ z).2; have := HX.out; omega
        have keep8 : ∀ j : Nat, w8.cell? ⟨X + 1, j, none⟩ = w7.cell? ⟨X + 1, j, none⟩ := fun j => World.cell?_of_block (w := w7) (hX8 hXo)
        have hHeld3 := (⟨d21, (keep8 0).trans g1, (keep8 1).trans g2, (keep8 2).trans g3, (keep8 3).trans g4⟩ : _ ∧ _ ∧ _ ∧ _ ∧ _)
        clear hown' hgrow e8 hX8 keep8 keep g1 g2 g3 g4 g0 hXo hHeld2 hm8
        refine hK.out _ _ hHeld3 (fun _ => ?_)
        clear hK K hHeld3
        try simp only [Act.put, List.setIfInBounds_toArray, List.set_cons_zero, List.set_cons_succ]
        refine wpAnyT_done (by kernel_rfl) ⟨by kernel_rfl, ?_⟩
        simp only [List.drop_succ_cons, List.drop_zero]
        go_wp2_with fail
        have e9 : Ext (fun b => b = mb) w8 (w8.setCell ⟨mb, 21, none⟩ (.slice av' (k + 1) cv')) := Ext.setCell (S := fun b => b = mb) (Ext.refl _ _) mb 21 (fun _ => rfl) _
        refine ⟨⟨k + 1, congrArg (Value.int .i64) (by omega), by omega, ⟨_, H8.out.1.setPts _, own_ext H8.out.2.1 e9 (fun g hg z => by have := (World.ownsRow.lt H8.out.2.1 g hg).1; have z : g = mb := z; omega)⟩, H8.out.2.2.trans e9 (fun _ _ z => z)⟩, ?_⟩
        simp only [intOf]
        omega
      · have hkk : k = n := by omega
        subst hkk
        have eW : Ext Nope w wr := H3.out.2.1.trans HW.out.2.2 (fun b hb z => by have z : b = mb := z; have := HMb.out; have := H2.out.1.size; omega)
        have HCk := toHid (HC.out _ eW)
        have HEW := toHid eW
        have hbr : wr.heap[B]? = some (.cells #[.int .i64 0, .int .i64 0] 167 (0, 0)) := (HW.out.2.2.block B (lt_of_heap H3.out.2.2.1) (fun z => by have z : B = mb := z; have := H3.out.2.2.2.1; omega)).trans H3.out.2.2.1
        have HBR := toHid hbr
        clear eW hbr hgr
        go_wp2_with fail
        refine HCk.out.mono ?_
        rintro e wA ⟨rfl, eA⟩
        have hbA := (eA.block B (lt_of_heap HBR.out) (fun z => z)).trans HBR.out
        have hA := toHid (show _ ∧ _ ∧ _ ∧ _ from ⟨ext0 HEW.out eA, hbA, HW.out.1.ext eA (fun z => z), own_ext HW.out.2.1 eA (fun _ _ z => z)⟩)
        have fB0 := free_of_blk hbA 0
        have fB1 := free_of_blk hbA 1
        have cB0 : wA.cell? ⟨B, 0, none⟩ = some (.int .i64 0) := by rw [show (⟨B, 0, none⟩ : Addr) = at_ B 0 from rfl, cell_of_blk hbA]; rfl
        have cB1 : wA.cell? ⟨B, 1, none⟩ = some (.int .i64 0) := by rw [show (⟨B, 1, none⟩ : Addr) = at_ B 1 from rfl, cell_of_blk hbA]; rfl
        have hBw : ∀ W, Ext Nope w W → Ext Nope w ((W.setCell ⟨B, 0, none⟩ (.int .i64 0)).setCell ⟨B, 1, none⟩ (.int .i64 0)) := fun W e => Ext.setCell (S := Nope) (Ext.setCell (S := Nope) e B 0 (fun z => by have := HB.out; omega) _) B 1 (fun z => by have := HB.out; omega) _
        have HBw := toHid hBw
        clear eA hbA HCk hBw
        rcases HCase.out with hec | ⟨rfl, hprog⟩
        · have b0 : (ec == 0) = false := by simpa using hec
          clear hec
          go_wp2_with fail
          have hbF : ((wA.setCell ⟨B, 0, none⟩ (.int .i64 0)).setCell ⟨B, 1, none⟩ (.int .i64 0)).heap[B]? = some (.cells #[.int .i64 0, .int .i64 0] 167 (0, 0)) := heap_setCell_eq (wA.setCell ⟨B, 0, none⟩ (.int .i64 0)) B 1 _ _ _ _ (heap_setCell_eq wA B 0 _ _ _ _ hA.out.2.1)
          have eF := HBw.out wA hA.out.1
          generalize (wA.setCell ⟨B, 0, none⟩ (.int .i64 0)).setCell ⟨B, 1, none⟩ (.int .i64 0) = wF at *
          have d0 : wF.cell? ⟨B, 0, none⟩ = some (.int .i64 0) := by rw [show (⟨B, 0, none⟩ : Addr) = at_ B 0 from rfl, cell_of_blk hbF]; rfl
          have d1 : wF.cell? ⟨B, 1, none⟩ = some (.int .i64 0) := by rw [show (⟨B, 1, none⟩ : Addr) = at_ B 1 from rfl, cell_of_blk hbF]; rfl
          exact bodyPost_ret (v := .tuple #[.agg #[.int .i64 0, .int .i64 0], .int .i64 ec]) (by simp [results, Tryz.results90, go_sem, d0, d1]) rfl ⟨⟨_, _, rfl⟩, eF⟩
        · subst hprog
          have hk2 : 2 ≤ k := HH1.out.resolve_right (fun z => z rfl)
          have hnp2 : np = 2 := HNP.out.symm
          subst hnp2
          obtain ⟨_, ⟨hv, hv0⟩ | ⟨gq, cap', cur, hv, hbq, hgq, hq1, hq2, hq3, hq4⟩⟩ := (show wA.ownsRow (mb + 1) 269 4 (.slice av k cv) k (ptsCells k) from hA.out.2.2.2)
          · omega
          cases hv
          have HQ := toHid (show _ ∧ _ ∧ _ from ⟨hgq, (by omega : k * 4 ≤ cur.size), hbq⟩)
          clear hgq hq1 hq2 hq3 hq4 hbq fB0 fB1 cB0 cB1 HBw
          go_wp2_with fail
          refine (rules_calls _).mono ?_
          rintro e wR ⟨M, rfl, hR, eR⟩
          have ER : Ext Nope w wR := ext0 hA.out.1 eR
          have hmR := hA.out.2.2.1.ext eR (fun z => z)
          have hgR := (eR.block gq (lt_of_heap HQ.out.1) (fun z => z)).trans HQ.out.1
          have hbR := (eR.block B (lt_of_heap hA.out.2.1) (fun z => z)).trans hA.out.2.1
          have hpR : Rd (fun b => b ≠ mb) wR [.slice ap 2 cp] (.l 2 (progA.map pairD)) := (HP.out.mono (B := fun b => b ≠ mb) (fun b hb _ z => by have := HMb.out; have := H2.out.1.size; omega)).ext0 ER
          have HRun := toHid (run_A hmR hpR (fun b hb => hb) hR hgR HQ.out.2.1 hk2)
          have HR2 := toHid (show _ ∧ _ ∧ _ from ⟨ER, hbR, hmR.lt⟩)
          clear eR ER hmR hgR hbR hpR hR
          go_wp2_with fail
          refine HRun.out.mono ?_
          rintro e wS ⟨rfl, ⟨st, hi, stp, hmS⟩, eS⟩
          have hlB := lt_of_heap HR2.out.2.1
          have hbS := (eS.block B hlB (fun z => by have := H3.out.2.2.2.1; have := HQ.out.2.2; rcases z with z | z <;> omega)).trans HR2.out.2.1
          have ES : Ext Nope w wS := HR2.out.1.trans eS (fun b hb z => by have := HMb.out; have := H2.out.1.size; have := HQ.out.2.2; rcases z with z | z <;> omega)
          have HS := toHid (show _ ∧ _ ∧ _ from ⟨hmS, hbS, ES⟩)
          clear eS hmS hbS ES HRun
          obtain ⟨m0, m4, m21, m22, m23⟩ := HS.out.1.at
          go_wp2_with fail
          go_still_tail 9, (by kernel_rfl)
          change wpList _ _ _ _ _ wS.drew
          have hbT : wS.drew.heap[B]? = some (.cells #[.int .i64 0, .int .i64 0] 167 (0, 0)) := HS.out.2.1
          have ET : Ext Nope w wS.drew := HS.out.2.2.drew
          generalize wS.drew = wT at *
          have fB0 : wT.frozen? ⟨B, 0, none⟩ = false := free_of_blk hbT 0
          have fB1 : wT.frozen? ⟨B, 1, none⟩ = false := free_of_blk hbT 1
          have cB0 : wT.cell? ⟨B, 0, none⟩ = some (.int .i64 0) := by rw [show (⟨B, 0, none⟩ : Addr) = at_ B 0 from rfl, cell_of_blk hbT]; rfl
          have cB1 : wT.cell? ⟨B, 1, none⟩ = some (.int .i64 0) := by rw [show (⟨B, 1, none⟩ : Addr) = at_ B 1 from rfl, cell_of_blk hbT]; rfl
          clear m0 m4 m21 m22 m23
          go_wp2_with fail
          have hbF : ((wT.setCell ⟨B, 0, none⟩ (.int .i64 hi)).setCell ⟨B, 1, none⟩ (.int .i64 stp)).heap[B]? = some (.cells #[.int .i64 hi, .int .i64 stp] 167 (0, 0)) := heap_setCell_eq (wT.setCell ⟨B, 0, none⟩ (.int .i64 hi)) B 1 _ _ _ _ (heap_setCell_eq wT B 0 _ _ _ _ hbT)
          have eF : Ext Nope w ((wT.setCell ⟨B, 0, none⟩ (.int .i64 hi)).setCell ⟨B, 1, none⟩ (.int .i64 stp)) := Ext.setCell (S := Nope) (Ext.setCell (S := Nope) ET B 0 (fun z => by have := HB.out; omega) _) B 1 (fun z => by have := HB.out; omega) _
          generalize (wT.setCell ⟨B, 0, none⟩ (.int .i64 hi)).setCell ⟨B, 1, none⟩ (.int .i64 stp) = wF at *
          have d0 : wF.cell? ⟨B, 0, none⟩ = some (.int .i64 hi) := by rw [show (⟨B, 0, none⟩ : Addr) = at_ B 0 from rfl, cell_of_blk hbF]; rfl
          have d1 : wF.cell? ⟨B, 1, none⟩ = some (.int .i64 stp) := by rw [show (⟨B, 1, none⟩ : Addr) = at_ B 1 from rfl, cell_of_blk hbF]; rfl
          exact bodyPost_ret (v := .tuple #[.agg #[.int .i64 hi, .int .i64 stp], .int .i64 0]) (by simp [results, Tryz.results90, go_sem, d0, d1]) rfl ⟨⟨_, _, rfl⟩, eF⟩
end Go.Proofs.YtajebdpalnpjdaaGreatDoor
