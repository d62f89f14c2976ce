/-
  abugidaref33.Plan: the walk, its first loop.
-/
import Derived.Test.YtmmcadbkmfjcbaaDoorD1
import Derived.Test.YtmmcadbkmfjcbaaDoorD0
import Derived.Test.YtmmcadbkmfjcbaaDoorC6
import Derived.Deep.DeepCutAuto
namespace Go.Proofs.YtmmcadbkmfjcbaaDoor
open Go.RowKit
attribute [local go_sem] alloc_drewN setCell_drewN

/-- New rectangles, and nothing else turned. -/
def RectsOf (w : World) (rs : List R) (e : Ending) (w' : World) : Prop := ∃ v, e = .returned v ∧ RectsAt w' w.heap.size v rs ∧ Ext Nope w w'

theorem refA_next (n : Nat) (xs ys : List Nat) (k : Nat) : refA n xs ys (k + 1) = rstepA n (xs.getD k 0) (ys.getD k 0) k (refA n xs ys k) := rfl
theorem getD_some {xs : List Nat} {k x : Nat} (h : xs[k]? = some x) : xs.getD k 0 = x := by rw [List.getD_eq_getElem?_getD, h]; rfl

theorem keep_one {a w5 : World} {o : Obj} (e5 : Ext Nope (a.alloc o).drew w5) : w5.heap[a.heap.size]? = some o :=
  (e5.block _ (show a.heap.size < (a.alloc o).heap.size by simp) (fun z => z)).trans (heap_alloc_new _ _)

set_option maxRecDepth 100000 in
set_option maxHeartbeats 4000000 in
theorem rplan_ok {w : World} {v1 v2 : Value} {xs ys : List Nat} (n many : Nat) (hr1 : Reads w v1 xs) (hr2 : Reads w v2 ys) (hux : U64 xs) (huy : U64 ys) (hn1 : 1 ≤ n) (hn : n ≤ 64) (hlen : xs.length = ys.length) (hl : xs.length ≤ 64) (hm : 1 ≤ many) :
    Calls Tryd.prog 23 #[v1, v2, .int .i64 n, .int .i64 many] w (RectsOf w (thinA 1048576 many 65 (piecesF n xs ys))) := by
  have HR := toHid (show _ ∧ _ from ⟨hr1, hr2⟩)
  obtain ⟨av1, cap1, hv1, _⟩ := hr1
  obtain ⟨av2, cap2, hv2, _⟩ := hr2
  obtain ⟨m, HN⟩ : ∃ m, Hid (xs.length = m) := ⟨_, rfl⟩
  have HN2 := toHid (hlen.symm.trans HN.out)
  rw [HN.out] at hv1 hl
  rw [HN2.out] at hv2
  subst hv1 hv2
  clear hlen
  go_enter Tryd.func23, Tryd.ntmps23
  go_wp2
  go_loopw [11, 9, 10] (fun i o j wr => ∃ k : Nat, i = .int .i64 k ∧ j = .bool (refA n xs ys k).2 ∧ k ≤ m ∧ RectsAt wr w.heap.size o (refA n xs ys k).1 ∧ Ext Nope w wr) (fun i _ _ _ => m - (intOf i).toNat)
  case atStart => exact ⟨0, rfl, rfl, Nat.zero_le _, World.ownsRow_nil _ _ _ _, Ext.refl _ _⟩
  case round =>
    obtain ⟨k, rfl, rfl, hk, hO, hE⟩ := hrel
    obtain ⟨L1, L2, L3⟩ := refA_ok n xs ys hn k
    by_cases hkm : k < m
    · obtain ⟨b1, o1, rfl, hb1, hc1⟩ := (HR.out.1.ext0 hE).at (by omega)
      obtain ⟨b2, o2, rfl, hb2, hc2⟩ := (HR.out.2.ext0 hE).at (by omega)
      obtain ⟨x, hx⟩ := some_at (k := k) hkm HN.out
      obtain ⟨y, hy⟩ := some_at (k := k) hkm HN2.out
      have c1 := hc1 k x hx
      have c2 := hc2 k y hy
      have hx64 := hux.at hx
      have hy64 := huy.at hy
      have HNX := toHid (refA_next n xs ys k)
      obtain ⟨st, hst⟩ : ∃ st, refA n xs ys k = st := ⟨_, rfl⟩
      rw [hst] at hO HNX L1 L2 L3 ⊢
      obtain ⟨rs, j⟩ := st
      simp only at hO L1 L2 L3 ⊢
      clear hst
      rw [getD_some hx, getD_some hy] at HNX
      clear hc1 hc2 hx hy
      obtain ⟨ro, HRO⟩ : ∃ ro, Hid (rowA x y k n = ro) := ⟨_, rfl⟩
      have hrow := fun W => row_calls x y n k W hx64 hy64 hn
      rw [HRO.out] at hrow
      have HROW := toHid hrow
      clear hrow
      go_upto_region 8 with fail
      go_cut [12] (fun s12 wx => ∃ B, s12 = ptr B ∧ wx.heap[B]? = some (.cells (rCells ro) 31 (0, 0)) ∧ wr.heap.size ≤ B ∧ Ext Nope wr wx)
      case first =>
        have s2 : (0 : Int) ≤ (k : Int) := by omega
        have s3 : (k : Int) < (m : Int) := by omega
        have SK : Hid (∀ w', Ext Nope wr w' → w'.cell? ⟨b1, o1 + k, none⟩ = some (.int .u64 (x : Int)) ∧ w'.cell? ⟨b2, o2 + k, none⟩ = some (.int .u64 (y : Int))) := fun w' e => by
          have kp : ∀ b o u, wr.cell? ⟨b, o, none⟩ = some u → w'.cell? ⟨b, o, none⟩ = some u := fun b o u hu => (World.cell?_of_block (w := wr) (a := ⟨b, o, none⟩) (e.block b (World.block_lt_of_cell? _ _ hu) (fun z => z))).trans hu
          exact ⟨kp _ _ _ c1, kp _ _ _ c2⟩
        clear c1 c2 hb1 hb2 L1 L2 L3
        go_region_held3 (fun w' => w'.cell? ⟨b1, o1 + k, none⟩ = some (.int .u64 (x : Int)) ∧ w'.cell? ⟨b2, o2 + k, none⟩ = some (.int .u64 (y : Int)))
          ((refine SK.out _ ?_; (repeat (first | exact Ext.refl _ _ | refine Ext.drew ?_ | refine Ext.alloc ?_ _ | refine ext_set0 ?_ _ _ | refine ext0 ?_ e5))))
          (first
            | (go_at_call 42; refine (HROW.out _).mono ?_; rintro e w5 ⟨rfl, e5⟩; (first
              | (have k5 : w5.heap[wr.heap.size]? = some (.cells (rCells ⟨0, 0, 0, 0⟩) 31 (0, 0)) := keep_one e5; obtain ⟨z0, z1, z2, z3⟩ := r_cells k5; obtain ⟨y0, y1, y2, y3⟩ := free_r k5; have hlt5 := lt_of_heap k5)
              | skip)))
        · go_wp2_with fail
          go_meet
          exact ⟨w5.heap.size, rfl, heap_alloc_new _ _, by have := e5.size; simpa using this, (ext0 (Ext.refl _ _).drew e5).alloc _⟩
        · go_wp2_with fail
          go_meet
          exact ⟨wr.heap.size, rfl, putR_heap ro k5, Nat.le_refl _, putR_ext _ ro (ext0 ((Ext.refl _ _).alloc _).drew e5) (fun z => absurd z (by omega))⟩

      case rest =>
        obtain ⟨B, rfl, KB, hB, eW⟩ := hcut
        have E1 : Ext Nope w wc := ext0 hE eW
        have hO1 : RectsAt wc w.heap.size _ rs := own_ext hO eW (fun _ _ z => z)
        have HG := toHid (show _ ∧ _ ∧ _ ∧ _ ∧ _ from ⟨KB, E1, hO1, hB, hO⟩)
        have hros := rowA_spec x y k n
        rw [HRO.out] at hros
        obtain ⟨ry, rh, rx0, rx1, rw0, rw1⟩ := hros
        obtain ⟨r0, r1, r2, r3⟩ := r_cells KB
        clear KB E1 hO1 eW hO hE c1 c2 hb1 hb2 HROW hB
        rcases rh with h0 | h1
        · have hnx : refA n xs ys (k + 1) = (rs, false) := by rw [HNX.out, rstepA, HRO.out, h0]; rfl
          have HNX2 := toHid hnx
          clear hnx
          rw [h0] at r3
          clear h0
          go_wp2
          go_roundw
          case rel => exact ⟨k + 1, by go_num, by rw [HNX2.out], by omega, by rw [HNX2.out]; exact HG.out.2.2.1, HG.out.2.1⟩
          case measure => simp [intOf]; omega
        · cases j with
          | true =>
            have hq0 : 0 < rs.length := L3 rfl
            obtain ⟨a, p, ea, la, ga, sa⟩ := last_split hq0
            have hnx : refA n xs ys (k + 1) = (a ++ [bothR p ro], true) := by rw [HNX.out, rstepA, HRO.out, h1]; simp only [Int.reduceLT, if_true, ga, sa]
            have HNX2 := toHid hnx
            obtain ⟨g, cap, rfl⟩ := rects_slice HG.out.2.2.1 hq0
            have d1 := rect_cells HG.out.2.2.1 ea
            rw [la] at d1
            have hps : p.small := (L2 p (by rw [ea]; simp)).small (by omega)
            have hrs : ro.small := by unfold R.small; omega
            have HEA := toHid (show _ ∧ _ from ⟨ea, la⟩)
            obtain ⟨q, HQ⟩ : ∃ q, Hid (rs.length = q) := ⟨_, rfl⟩
            rw [HQ.out] at d1 hq0 L1
            have hvq : (Value.slice (some ⟨g, 0, none⟩) rs.length cap) = .slice (some ⟨g, 0, none⟩) q cap := by rw [HQ.out]
            rw [hvq]
            clear hnx ea la ga sa L2 L3 ry rx0 rx1 rw0 rw1 HRO HNX hvq
            have hgl : g < wc.heap.size := (World.ownsRow.lt HG.out.2.2.1 g rfl).2
            obtain ⟨i0, i1, i2, i3⟩ := d1
            have SK : Hid (∀ w', Ext Nope wc w' → (w'.cell? ⟨g, (q - 1) * 4, none⟩ = some (.int .i64 p.x) ∧ w'.cell? ⟨g, (q - 1) * 4 + 1, none⟩ = some (.int .i64 p.y) ∧ w'.cell? ⟨g, (q - 1) * 4 + 2, none⟩ = some (.int .i64 p.w) ∧ w'.cell? ⟨g, (q - 1) * 4 + 3, none⟩ = some (.int .i64 p.h)) ∧ (w'.cell? ⟨B, 0, none⟩ = some (.int .i64 ro.x) ∧ w'.cell? ⟨B, 1, none⟩ = some (.int .i64 ro.y) ∧ w'.cell? ⟨B, 2, none⟩ = some (.int .i64 ro.w) ∧ w'.cell? ⟨B, 3, none⟩ = some (.int .i64 ro.h))) := fun w' e => by
              have kp : ∀ b o u, wc.cell? ⟨b, o, none⟩ = some u → w'.cell? ⟨b, o, none⟩ = some u := fun b o u hu => (World.cell?_of_block (w := wc) (a := ⟨b, o, none⟩) (e.block b (World.block_lt_of_cell? _ _ hu) (fun z => z))).trans hu
              exact ⟨⟨kp _ _ _ i0, kp _ _ _ i1, kp _ _ _ i2, kp _ _ _ i3⟩, ⟨kp _ _ _ r0, kp _ _ _ r1, kp _ _ _ r2, kp _ _ _ r3⟩⟩
            have hpos : (0 : Int) < ro.h := by omega
            have H1 := toHid h1
            clear h1
            go_upto_region 10 with fail
            clear i0 i1 i2 i3 r0 r1 r2 r3
            have s1 : IntKind.i64.wrap ((q : Int) - 1) = (q : Int) - 1 := IntWalk.i64_in _ (by omega)
            have s2 : (0 : Int) ≤ (q : Int) - 1 := by omega
            have s3 : (q : Int) - 1 < (q : Int) := by omega
            have s4 : ((q : Int) - 1).toNat = q - 1 := by omega
            have s5 : (1 : Int) ≤ (q : Int) := by omega
            refine wp_region_head 12 (fun w' => Ext Nope wc w' ∧ (w'.cell? ⟨g, (q - 1) * 4, none⟩ = some (.int .i64 p.x) ∧ w'.cell? ⟨g, (q - 1) * 4 + 1, none⟩ = some (.int .i64 p.y) ∧ w'.cell? ⟨g, (q - 1) * 4 + 2, none⟩ = some (.int .i64 p.w) ∧ w'.cell? ⟨g, (q - 1) * 4 + 3, none⟩ = some (.int .i64 p.h)) ∧ (w'.cell? ⟨B, 0, none⟩ = some (.int .i64 ro.x) ∧ w'.cell? ⟨B, 1, none⟩ = some (.int .i64 ro.y) ∧ w'.cell? ⟨B, 2, none⟩ = some (.int .i64 ro.w) ∧ w'.cell? ⟨B, 3, none⟩ = some (.int .i64 ro.h))) (by kernel_rfl) (by kernel_rfl) ⟨(Ext.refl _ _).drew, SK.out _ (Ext.refl _ _).drew⟩ (fun hO hHeld => ?_)
            refine wpAnyT_takeD (i := 0) (d := some 62) (v := ?_) hO rfl rfl (by kernel_rfl) (fun _ _ _ h => h) (Or.inl ⟨by rfl, ?_⟩) (by exact hHeld) ?_
            rotate_left
            · intro w' hSw
              obtain ⟨_, ⟨z1, z2, z3, z4⟩, ⟨z5, z6, z7, z8⟩⟩ := hSw
              go_simp
              try (with_reducible rfl)
            try simp only [Act.put, List.setIfInBounds_toArray, List.set_cons_zero, List.set_cons_succ]
            refine wpAnyT_takeD (i := 1) (d := some 63) (v := ?_) hO rfl rfl (by kernel_rfl) (fun _ _ _ h => h) (Or.inl ⟨by rfl, ?_⟩) (by exact hHeld) ?_
            rotate_left
            · intro w' hSw
              obtain ⟨_, ⟨z1, z2, z3, z4⟩, ⟨z5, z6, z7, z8⟩⟩ := hSw
              go_simp
              try (with_reducible rfl)
            try simp only [Act.put, List.setIfInBounds_toArray, List.set_cons_zero, List.set_cons_succ]
            refine wpAnyT_takeD (i := 2) (d := some 64) (v := ?_) hO rfl rfl (by kernel_rfl) (fun _ _ _ h => h) (Or.inl ⟨by rfl, ?_⟩) (by exact hHeld) ?_
            rotate_left
            · intro w' hSw
              obtain ⟨_, ⟨z1, z2, z3, z4⟩, ⟨z5, z6, z7, z8⟩⟩ := hSw
              go_simp
              try (with_reducible rfl)
            try simp only [Act.put, List.setIfInBounds_toArray, List.set_cons_zero, List.set_cons_succ]
            refine wpAnyT_takeD (i := 3) (d := some 65) (v := ?_) hO rfl rfl (by kernel_rfl) (fun _ _ _ h => h) (Or.inl ⟨by rfl, ?_⟩) (by exact hHeld) ?_
            rotate_left
            · intro w' hSw
              obtain ⟨_, ⟨z1, z2, z3, z4⟩, ⟨z5, z6, z7, z8⟩⟩ := hSw
              go_simp
              try (with_reducible rfl)
            try simp only [Act.put, List.setIfInBounds_toArray, List.set_cons_zero, List.set_cons_succ]
            refine wpAnyT_takeD (i := 4) (d := some 66) (v := ?_) hO rfl rfl (by kernel_rfl) (fun _ _ _ h => h) (Or.inl ⟨by rfl, ?_⟩) (by exact hHeld) ?_
            rotate_left
            · intro w' hSw
              obtain ⟨_, ⟨z1, z2, z3, z4⟩, ⟨z5, z6, z7, z8⟩⟩ := hSw
              go_simp
              try (with_reducible rfl)
            try simp only [Act.put, List.setIfInBounds_toArray, List.set_cons_zero, List.set_cons_succ]
            refine wpAnyT_takeD (i := 5) (d := some 67) (v := ?_) hO rfl rfl (by kernel_rfl) (fun _ _ _ h => h) (Or.inl ⟨by rfl, ?_⟩) (by exact hHeld) ?_
            rotate_left
            · intro w' hSw
              obtain ⟨_, ⟨z1, z2, z3, z4⟩, ⟨z5, z6, z7, z8⟩⟩ := hSw
              go_simp
              try (with_reducible rfl)
            try simp only [Act.put, List.setIfInBounds_toArray, List.set_cons_zero, List.set_cons_succ]
            refine wpAnyT_takeD (i := 6) (d := some 68) (v := ?_) hO rfl rfl (by kernel_rfl) (fun _ _ _ h => h) (Or.inl ⟨by rfl, ?_⟩) (by exact hHeld) ?_
            rotate_left
            · intro w' hSw
              obtain ⟨_, ⟨z1, z2, z3, z4⟩, ⟨z5, z6, z7, z8⟩⟩ := hSw
              go_simp
              try (with_reducible rfl)
            try simp only [Act.put, List.setIfInBounds_toArray, List.set_cons_zero, List.set_cons_succ]
            refine wpAnyT_takeD (i := 7) (d := some 69) (v := ?_) hO rfl rfl (by kernel_rfl) (fun _ _ _ h => h) (Or.inl ⟨by rfl, ?_⟩) (by exact hHeld) ?_
            rotate_left
            · intro w' hSw
              obtain ⟨_, ⟨z1, z2, z3, z4⟩, ⟨z5, z6, z7, z8⟩⟩ := hSw
              go_simp
              try (with_reducible rfl)
            try simp only [Act.put, List.setIfInBounds_toArray, List.set_cons_zero, List.set_cons_succ]
            refine wpAnyT_takeD (i := 8) (d := some 70) (v := ?_) hO rfl rfl (by kernel_rfl) (fun _ _ _ h => h) (Or.inl ⟨by rfl, ?_⟩) (by exact hHeld) ?_
            rotate_left
            · intro w' hSw
              obtain ⟨_, ⟨z1, z2, z3, z4⟩, ⟨z5, z6, z7, z8⟩⟩ := hSw
              go_simp
              try (with_reducible rfl)
            try simp only [Act.put, List.setIfInBounds_toArray, List.set_cons_zero, List.set_cons_succ]
            refine wpAnyT_takeD (i := 9) (d := some 71) (v := ?_) hO rfl rfl (by kernel_rfl) (fun _ _ _ h => h) (Or.inl ⟨by rfl, ?_⟩) (by exact hHeld) ?_
            rotate_left
            · intro w' hSw
              obtain ⟨_, ⟨z1, z2, z3, z4⟩, ⟨z5, z6, z7, z8⟩⟩ := hSw
              go_simp
              try (with_reducible rfl)
            try simp only [Act.put, List.setIfInBounds_toArray, List.set_cons_zero, List.set_cons_succ]
            refine wpAnyT_takeD (i := 10) (d := some 72) (v := ?_) hO rfl rfl (by kernel_rfl) (fun _ _ _ h => h) (Or.inl ⟨by rfl, ?_⟩) (by exact hHeld) ?_
            rotate_left
            · intro w' hSw
              obtain ⟨_, ⟨z1, z2, z3, z4⟩, ⟨z5, z6, z7, z8⟩⟩ := hSw
              go_simp
              try (with_reducible rfl)
            try simp only [Act.put, List.setIfInBounds_toArray, List.set_cons_zero, List.set_cons_succ]
            clear hHeld
            refine wpAnyT_one (i := 11) rfl (by kernel_rfl) (by rfl) (fun K hK => ?_)
            go_simp
            refine (Both_calls p ro _ hps hrs).mono ?_
            rintro e w5 ⟨rfl, e5⟩
            have x1 : Ext Nope wc w5 := ext0 (Ext.refl _ _).drew e5
            clear e5
            try go_simp
            refine hK.out _ _ ⟨x1, SK.out _ x1⟩ (fun _ => ?_)
            clear hK K
            try simp only [Act.put, List.setIfInBounds_toArray, List.set_cons_zero, List.set_cons_succ]
            refine wpAnyT_done (by kernel_rfl) ⟨by kernel_rfl, ?_⟩
            simp only [List.drop_succ_cons, List.drop_zero]
            obtain ⟨⟨i0, i1, i2, i3⟩, ⟨r0, r1, r2, r3⟩⟩ := SK.out _ x1
            have hO5 : RectsAt w5 w.heap.size (.slice (some ⟨g, 0, none⟩) q cap) rs := by have := own_ext HG.out.2.2.1 x1 (fun _ _ z => z); rw [← HQ.out]; exact this
            have f0 := rects_free hO5 ((q - 1) * 4)
            have f1 := rects_free hO5 ((q - 1) * 4 + 1)
            have f2 := rects_free hO5 ((q - 1) * 4 + 2)
            have f3 := rects_free hO5 ((q - 1) * 4 + 3)
            have hO6 : RectsAt ((((w5.setCell ⟨g, (q - 1) * 4, none⟩ (.int .i64 (bothR p ro).x)).setCell ⟨g, (q - 1) * 4 + 1, none⟩ (.int .i64 (bothR p ro).y)).setCell ⟨g, (q - 1) * 4 + 2, none⟩ (.int .i64 (bothR p ro).w)).setCell ⟨g, (q - 1) * 4 + 3, none⟩ (.int .i64 (bothR p ro).h)) w.heap.size _ _ := rects_put hO5 HEA.out.1 (HEA.out.2.trans (by rw [HQ.out])) (bothR p ro)
            have hgB : ¬ B = g := by have := (World.ownsRow.lt HG.out.2.2.2.2 g rfl).2; have := HG.out.2.2.2.1; omega
            have KB6 := (heap_setCell_ne _ g ((q - 1) * 4 + 3) B (.int .i64 (bothR p ro).h) hgB).trans ((heap_setCell_ne _ g ((q - 1) * 4 + 2) B (.int .i64 (bothR p ro).w) hgB).trans ((heap_setCell_ne _ g ((q - 1) * 4 + 1) B (.int .i64 (bothR p ro).y) hgB).trans ((heap_setCell_ne _ g ((q - 1) * 4) B (.int .i64 (bothR p ro).x) hgB).trans ((x1.block B (lt_of_heap HG.out.1) (fun z => z)).trans HG.out.1))))
            have E6 : Ext Nope w ((((w5.setCell ⟨g, (q - 1) * 4, none⟩ (.int .i64 (bothR p ro).x)).setCell ⟨g, (q - 1) * 4 + 1, none⟩ (.int .i64 (bothR p ro).y)).setCell ⟨g, (q - 1) * 4 + 2, none⟩ (.int .i64 (bothR p ro).w)).setCell ⟨g, (q - 1) * 4 + 3, none⟩ (.int .i64 (bothR p ro).h)) := put4_ext (ext0 HG.out.2.1 x1) g ((q - 1) * 4) (bothR p ro) (fun z => absurd (World.ownsRow.lt HG.out.2.2.1 g rfl).1 (by omega))
            have H6 := toHid (show _ ∧ _ ∧ _ from ⟨hO6, KB6, E6⟩)
            clear hO5 hO6 KB6 E6 r0 r1 r2 r3
            go_upto_region 11 with fail
            clear x1 i0 i1 i2 i3 f0 f1 f2 f3 s1 s2 s3 s4 s5
            generalize ((((w5.setCell ⟨g, (q - 1) * 4, none⟩ (.int .i64 (bothR p ro).x)).setCell ⟨g, (q - 1) * 4 + 1, none⟩ (.int .i64 (bothR p ro).y)).setCell ⟨g, (q - 1) * 4 + 2, none⟩ (.int .i64 (bothR p ro).w)).setCell ⟨g, (q - 1) * 4 + 3, none⟩ (.int .i64 (bothR p ro).h)) = w6 at *
            obtain ⟨r0, r1, r2, r3⟩ := r_cells H6.out.2.1
            go_wp2
            go_roundw
            case rel => exact ⟨k + 1, by go_num, by rw [HNX2.out], by omega, by rw [HNX2.out]; exact H6.out.1, H6.out.2.2⟩
            case measure => simp [intOf]; omega
          | false =>
            have hnx : refA n xs ys (k + 1) = (rs ++ [ro], true) := by rw [HNX.out, rstepA, HRO.out, h1]; rfl
            have HNX2 := toHid hnx
            have hpos : (0 : Int) < ro.h := by omega
            have H1 := toHid h1
            obtain ⟨q, HQ⟩ : ∃ q, Hid (rs.length = q) := ⟨_, rfl⟩
            rw [HQ.out] at L1
            have hOc : wc.ownsRow w.heap.size 31 4 u9 q (rectCells rs) := by have := HG.out.2.2.1; unfold RectsAt at this; rw [HQ.out] at this; exact this
            have hsz : w.heap.size ≤ wc.heap.size := HG.out.2.1.size
            clear hnx h1 L2 L3 ry rx0 rx1 rw0 rw1 HNX
            obtain ⟨it, hi, hz0, hz1, hz2⟩ := info_parts info31
            go_wp2_with (at_builtin; refine wpList_append_own _ rfl _ _ 46 rfl w.heap.size 31 it _ 4 32 Tryd.underlying46 hi hz0 hz1 hz2 rfl (by decide) _ _ _ rfl (World.ownsRow.alloc hOc _) ⟨wc.heap.size, 0, none⟩ 1 1 (rectCells [ro]) rfl rfl (rCells_at (heap_alloc_new _ _)) (rectCells_oneCell _) (by unfold maxLen; omega) (by omega) (by simp; omega) ?_; intro v' w3 hown' hgrow _; have E3 : Ext (fun k => u9.ownBlock = some k) wc w3 := ((Ext.refl _ _).alloc _).grown hgrow (fun k hk _ => hk); clear hgrow; have x4 := (E3.block B (lt_of_heap HG.out.1) (fun z => absurd (World.ownsRow.lt HG.out.2.2.2.2 B z).2 (by have := HG.out.2.2.2.1; omega))).trans HG.out.1; obtain ⟨r0', r1', r2', r3'⟩ := r_cells x4; have HX := toHid (show _ ∧ _ from ⟨hown', E3⟩); clear hown' E3 x4)
            go_roundw
            case rel => exact ⟨k + 1, by go_num, by rw [HNX2.out], by omega, by rw [HNX2.out]; exact RectsAt.snoc HX.out.1 (by rw [HQ.out]), HG.out.2.1.trans HX.out.2 (fun i hi z => absurd (World.ownsRow.lt HG.out.2.2.1 i z).1 (by omega))⟩
            case measure => simp [intOf]; omega
    · have hkk : k = m := by omega
      subst hkk
      have hend : (refA n xs ys k).1 = piecesF n xs ys := by rw [← HN.out]; exact refA_end n xs ys hn
      rw [hend] at hO
      have hok : ∀ r ∈ piecesF n xs ys, okR 64 r := fun r hr => ((piecesF_spec n xs ys hn).2 r hr).mono (by rw [HN.out]; omega)
      have hlen0 : (piecesF n xs ys).length ≤ 65 := by have := (piecesF_spec n xs ys hn).1; rw [HN.out] at this; omega
      clear hend L1 L2 L3
      obtain ⟨rs0, hrs0⟩ : ∃ rs0, piecesF n xs ys = rs0 := ⟨_, rfl⟩
      rw [hrs0] at hO hok hlen0 ⊢
      have HRS := toHid hrs0
      clear hrs0 HR HN HN2 hux huy
      generalize (refA n xs ys k).2 = jb
      rename_i wz
      have HOE := toHid (show _ ∧ _ from ⟨hO, hE⟩)
      have HOK := toHid (show _ ∧ _ from ⟨hok, hlen0⟩)
      clear hO hE hok hlen0
      go_wp2
      go_loopw [9] (fun o wr => ∃ (f : Nat) (rs : List R), thinA 1048576 many f rs = thinA 1048576 many 65 rs0 ∧ rs.length ≤ f ∧ f ≤ 65 ∧ (∀ r ∈ rs, okR 64 r) ∧ RectsAt wr w.heap.size o rs ∧ Ext Nope w wr) (fun o _ => lenOf o)
      case atStart => exact ⟨65, rs0, rfl, HOK.out.2, Nat.le_refl _, HOK.out.1, HOE.out.1, HOE.out.2⟩
      case round =>
        obtain ⟨f, rs, hth, hf, hf65, hokr, g2, g3⟩ := hrel
        clear HOE HOK
        rename World => wo
        by_cases hlm : many < rs.length
        · obtain ⟨g, cap, rfl⟩ := rects_slice g2 (by omega)
          obtain ⟨q, HQ⟩ : ∃ q, Hid (rs.length = q) := ⟨_, rfl⟩
          have HTH := toHid hth
          have hvq : (Value.slice (some ⟨g, 0, none⟩) rs.length cap) = .slice (some ⟨g, 0, none⟩) q cap := by rw [HQ.out]
          rw [hvq] at g2 ⊢
          rw [HQ.out] at hlm hf
          have HG := toHid (show _ ∧ _ from ⟨g2, g3⟩)
          clear hth g2 g3 hvq
          go_wp2
          go_loopw [15, 13, 14] (fun i bk lk wv => ∃ k : Nat, i = .int .i64 k ∧ bk = .int .i64 ((bestA 1048576 rs k).1 : Nat) ∧ lk = .int .i64 (bestA 1048576 rs k).2 ∧ k ≤ q - 1 ∧ Ext Nope wo wv) (fun i _ _ _ => q - 1 - (intOf i).toNat)
          case atStart => exact ⟨0, rfl, rfl, rfl, Nat.zero_le _, Ext.refl _ _⟩
          case round =>
            obtain ⟨k, rfl, rfl, rfl, hk, hE⟩ := hrel
            by_cases hkq : k < q - 1
            · have G4 : RectsAt wr w.heap.size (.slice (some ⟨g, 0, none⟩) q cap) rs := own_ext HG.out.1 hE (fun _ _ z => z)
              obtain ⟨p, p1, p2, e1, e2⟩ := nth_split (xs := rs) (k := k) (by rw [HQ.out]; omega)
              obtain ⟨r, p3, e3⟩ : ∃ r p3, p2 = r :: p3 := by
                cases p2 with
                | nil => rw [e1] at HQ; have := HQ.out; simp at this; omega
                | cons r p3 => exact ⟨r, p3, rfl⟩
              subst e3
              have d1 := rect_cells G4 e1
              have d2 := rect_cells (a := p1 ++ [p]) (o := r) (b := p3) G4 (by rw [e1]; simp)
              rw [e2] at d1
              rw [show (p1 ++ [p]).length = k + 1 by simp [e2]] at d2
              have hp : rs.getD k zeroR = p := by rw [List.getD_eq_getElem?_getD, e1, ← e2]; simp
              have hr : rs.getD (k + 1) zeroR = r := by rw [List.getD_eq_getElem?_getD, e1, ← e2]; simp
              have hps : p.small := (hokr p (by rw [e1]; simp)).small (by omega)
              have hrs : r.small := (hokr r (by rw [e1]; simp)).small (by omega)
              have hbs : (bothR p r).small := (okR_both (hokr p (by rw [e1]; simp)) (hokr r (by rw [e1]; simp))).small (by omega)
              have hnx : bestA 1048576 rs (k + 1) = if moreA p r < (bestA 1048576 rs k).2 then (k, moreA p r) else bestA 1048576 rs k := by rw [bestA, hp, hr]
              obtain ⟨st, hst⟩ : ∃ st, bestA 1048576 rs k = st := ⟨_, rfl⟩
              rw [hst] at hnx ⊢
              obtain ⟨bk, lk⟩ := st
              obtain ⟨m1, m2⟩ := area_bounds hps
              obtain ⟨m3, m4⟩ := area_bounds hrs
              obtain ⟨m5, m6⟩ := area_bounds hbs
              have hm0 : moreA p r = areaR (bothR p r) - areaR p - areaR r := rfl
              have HA1 := toHid (fun W => Area_calls p W hps)
              have HA2 := toHid (fun W => Area_calls r W hrs)
              have HA3 := toHid (fun W => Area_calls (bothR p r) W hbs)
              rw [hm0] at hnx
              change 0 ≤ areaR p at m1
              change areaR p ≤ 1000000 at m2
              change 0 ≤ areaR r at m3
              change areaR r ≤ 1000000 at m4
              change 0 ≤ areaR (bothR p r) at m5
              change areaR (bothR p r) ≤ 1000000 at m6
              generalize areaR p = A1 at *
              generalize areaR r = A2 at *
              generalize areaR (bothR p r) = A3 at *
              have HNX := toHid hnx
              have HP := toHid (show _ ∧ _ ∧ _ from ⟨hps, hrs, hbs⟩)
              clear hnx hst hp hr e1 e2 hm0 hps hrs hbs
              obtain ⟨i0, i1, i2, i3⟩ := d1
              obtain ⟨j0, j1, j2, j3⟩ := d2
              have SK : Hid (∀ w', Ext Nope wr w' → (w'.cell? ⟨g, k * 4, none⟩ = some (.int .i64 p.x) ∧ w'.cell? ⟨g, k * 4 + 1, none⟩ = some (.int .i64 p.y) ∧ w'.cell? ⟨g, k * 4 + 2, none⟩ = some (.int .i64 p.w) ∧ w'.cell? ⟨g, k * 4 + 3, none⟩ = some (.int .i64 p.h)) ∧ (w'.cell? ⟨g, (k + 1) * 4, none⟩ = some (.int .i64 r.x) ∧ w'.cell? ⟨g, (k + 1) * 4 + 1, none⟩ = some (.int .i64 r.y) ∧ w'.cell? ⟨g, (k + 1) * 4 + 2, none⟩ = some (.int .i64 r.w) ∧ w'.cell? ⟨g, (k + 1) * 4 + 3, none⟩ = some (.int .i64 r.h))) := fun w' e => by
                have kp : ∀ b o u, wr.cell? ⟨b, o, none⟩ = some u → w'.cell? ⟨b, o, none⟩ = some u := fun b o u hu => (World.cell?_of_block (w := wr) (a := ⟨b, o, none⟩) (e.block b (World.block_lt_of_cell? _ _ hu) (fun z => z))).trans hu
                exact ⟨⟨kp _ _ _ i0, kp _ _ _ i1, kp _ _ _ i2, kp _ _ _ i3⟩, ⟨kp _ _ _ j0, kp _ _ _ j1, kp _ _ _ j2, kp _ _ _ j3⟩⟩
              clear i0 i1 i2 i3 j0 j1 j2 j3 G4
              go_upto_region 20 with fail
              have s1 : IntKind.i64.wrap ((k : Int) + 1) = (k : Int) + 1 := IntWalk.i64_in _ (by omega)
              have s2 : (0 : Int) ≤ (k : Int) := by omega
              have s3 : (k : Int) < (q : Int) := by omega
              have s4 : (0 : Int) ≤ (k : Int) + 1 := by omega
              have s5 : (k : Int) + 1 < (q : Int) := by omega
              have s6 : ((k : Int) + 1).toNat = k + 1 := by omega
              have t4 : IntKind.i64.wrap (A3 - A1) = A3 - A1 := IntWalk.i64_in _ (by omega)
              have t5 : IntKind.i64.wrap (A3 - A1 - A2) = A3 - A1 - A2 := IntWalk.i64_in _ (by omega)
              go_region_held3 (fun w' => (w'.cell? ⟨g, k * 4, none⟩ = some (.int .i64 p.x) ∧ w'.cell? ⟨g, k * 4 + 1, none⟩ = some (.int .i64 p.y) ∧ w'.cell? ⟨g, k * 4 + 2, none⟩ = some (.int .i64 p.w) ∧ w'.cell? ⟨g, k * 4 + 3, none⟩ = some (.int .i64 p.h)) ∧ (w'.cell? ⟨g, (k + 1) * 4, none⟩ = some (.int .i64 r.x) ∧ w'.cell? ⟨g, (k + 1) * 4 + 1, none⟩ = some (.int .i64 r.y) ∧ w'.cell? ⟨g, (k + 1) * 4 + 2, none⟩ = some (.int .i64 r.w) ∧ w'.cell? ⟨g, (k + 1) * 4 + 3, none⟩ = some (.int .i64 r.h)))
                ((refine SK.out _ ?_; (repeat (first | exact Ext.refl _ _ | refine Ext.drew ?_ | refine ext0 ?_ e8 | refine ext0 ?_ e7 | refine ext0 ?_ e6 | refine ext0 ?_ e5))))
                (first
                  | (go_at_call 43; refine (Both_calls p r _ HP.out.1 HP.out.2.1).mono ?_; rintro e w5 ⟨rfl, e5⟩)
                  | (go_at_call_of 44 (R.val (bothR p r)); refine (HA3.out _).mono ?_; rintro e w6 ⟨rfl, e6⟩)
                  | (go_at_call_of 44 (Value.agg #[Value.int IntKind.i64 p.x, Value.int IntKind.i64 p.y, Value.int IntKind.i64 p.w, Value.int IntKind.i64 p.h]); refine (HA1.out _).mono ?_; rintro e w7 ⟨rfl, e7⟩)
                  | (go_at_call_of 44 (Value.agg #[Value.int IntKind.i64 r.x, Value.int IntKind.i64 r.y, Value.int IntKind.i64 r.w, Value.int IntKind.i64 r.h]); refine (HA2.out _).mono ?_; rintro e w8 ⟨rfl, e8⟩))
              clear s1 s2 s3 s4 s5 s6 t4 t5 SK HP HA1 HA2 HA3
              have E8 : Ext Nope wo w8 := ext0 (ext0 (ext0 (ext0 (ext0 hE (Ext.refl _ _).drew) e5) e6) e7) e8
              clear e5 e6 e7 e8
              by_cases hlt : A3 - A1 - A2 < lk
              · have hnx := HNX.out
                rw [if_pos hlt] at hnx
                have HNX2 := toHid hnx
                clear hnx
                go_wp2
                go_roundw
                case rel => exact ⟨k + 1, by go_num, by rw [HNX2.out], by rw [HNX2.out], by omega, E8⟩
                case measure => simp [intOf]; omega
              · have hnx := HNX.out
                rw [if_neg hlt] at hnx
                have HNX2 := toHid hnx
                clear hnx
                go_wp2
                go_roundw
                case rel => exact ⟨k + 1, by go_num, by rw [HNX2.out], by rw [HNX2.out], by omega, E8⟩
                case measure => simp [intOf]; omega
            · have hkk : k = q - 1 := by omega
              subst hkk
              obtain ⟨f', rfl⟩ : ∃ f', f = f' + 1 := ⟨f - 1, by omega⟩
              have hst := HTH.out
              rw [thin_step' (by rw [HQ.out]; exact hlm), HQ.out] at hst
              have hbl := bestA_le 1048576 rs (q - 1)
              obtain ⟨st, hb⟩ : ∃ st, bestA 1048576 rs (q - 1) = st := ⟨_, rfl⟩
              rw [hb] at hst hbl ⊢
              obtain ⟨bk, lk⟩ := st
              simp only at hst hbl
              have hb2 : bk + 2 ≤ q := by omega
              have hjl := joinA_length (rs := rs) (b := bk) (by rw [HQ.out]; exact hb2)
              have hjo := joinA_ok (b := bk) (by rw [HQ.out]; exact hb2) hokr
              have G4 : RectsAt wr w.heap.size (.slice (some ⟨g, 0, none⟩) q cap) rs := own_ext HG.out.1 hE (fun _ _ z => z)
              have hgh : w.heap.size ≤ g := (World.ownsRow.lt G4 g rfl).1
              have hgw : g < wr.heap.size := (World.ownsRow.lt G4 g rfl).2
              obtain ⟨p, p1, p2, e1, e2⟩ := nth_split (xs := rs) (k := bk) (by rw [HQ.out]; omega)
              obtain ⟨r, p3, e3⟩ : ∃ r p3, p2 = r :: p3 := by
                cases p2 with
                | nil => rw [e1] at HQ; have := HQ.out; simp at this; omega
                | cons r p3 => exact ⟨r, p3, rfl⟩
              subst e3
              have d1 := rect_cells G4 e1
              have d2 := rect_cells (a := p1 ++ [p]) (o := r) (b := p3) G4 (by rw [e1]; simp)
              rw [e2] at d1
              rw [show (p1 ++ [p]).length = bk + 1 by simp [e2]] at d2
              have hp : rs.getD bk zeroR = p := by rw [List.getD_eq_getElem?_getD, e1, ← e2]; simp
              have hr : rs.getD (bk + 1) zeroR = r := by rw [List.getD_eq_getElem?_getD, e1, ← e2]; simp
              have hps : p.small := (hokr p (by rw [e1]; simp)).small (by omega)
              have hrs : r.small := (hokr r (by rw [e1]; simp)).small (by omega)
              have hjj : joinA rs bk = p1 ++ bothR p r :: p3 := by
                unfold joinA
                rw [hp, hr, e1]
                have h1 := drop_two p1 p3 p r bk e2
                rw [h1, ← e2]
                simp
              rw [hjj, HQ.out] at hjl
              rw [hjj] at hst hjo
              have HST := toHid (show _ ∧ _ ∧ _ ∧ _ ∧ _ from ⟨hst, hjl, hjo, e1, e2⟩)
              have hq3 : p3.length = q - (bk + 2) := by have := HQ.out; rw [e1] at this; simp [e2] at this; omega
              clear hst hjl hjo hb hbl hjj hp hr e1 e2
              obtain ⟨i0, i1, i2, i3⟩ := d1
              obtain ⟨j0, j1, j2, j3⟩ := d2
              have SK : Hid (∀ w', Ext Nope wr w' → (w'.cell? ⟨g, bk * 4, none⟩ = some (.int .i64 p.x) ∧ w'.cell? ⟨g, bk * 4 + 1, none⟩ = some (.int .i64 p.y) ∧ w'.cell? ⟨g, bk * 4 + 2, none⟩ = some (.int .i64 p.w) ∧ w'.cell? ⟨g, bk * 4 + 3, none⟩ = some (.int .i64 p.h)) ∧ (w'.cell? ⟨g, (bk + 1) * 4, none⟩ = some (.int .i64 r.x) ∧ w'.cell? ⟨g, (bk + 1) * 4 + 1, none⟩ = some (.int .i64 r.y) ∧ w'.cell? ⟨g, (bk + 1) * 4 + 2, none⟩ = some (.int .i64 r.w) ∧ w'.cell? ⟨g, (bk + 1) * 4 + 3, none⟩ = some (.int .i64 r.h))) := fun w' e => by
                have kp : ∀ b o u, wr.cell? ⟨b, o, none⟩ = some u → w'.cell? ⟨b, o, none⟩ = some u := fun b o u hu => (World.cell?_of_block (w := wr) (a := ⟨b, o, none⟩) (e.block b (World.block_lt_of_cell? _ _ hu) (fun z => z))).trans hu
                exact ⟨⟨kp _ _ _ i0, kp _ _ _ i1, kp _ _ _ i2, kp _ _ _ i3⟩, ⟨kp _ _ _ j0, kp _ _ _ j1, kp _ _ _ j2, kp _ _ _ j3⟩⟩
              have HG4 := toHid G4
              have HQ3 := toHid hq3
              clear i0 i1 i2 i3 j0 j1 j2 j3 G4 hq3
              go_upto_region 24 with fail
              have s1 : IntKind.i64.wrap ((bk : Int) + 1) = (bk : Int) + 1 := IntWalk.i64_in _ (by omega)
              have s2 : (0 : Int) ≤ (bk : Int) := by omega
              have s3 : (bk : Int) < (q : Int) := by omega
              have s4 : (0 : Int) ≤ (bk : Int) + 1 := by omega
              have s5 : (bk : Int) + 1 < (q : Int) := by omega
              have s6 : ((bk : Int) + 1).toNat = bk + 1 := by omega
              refine wp_region_head 12 (fun w' => Ext Nope wr w' ∧ (w'.cell? ⟨g, bk * 4, none⟩ = some (.int .i64 p.x) ∧ w'.cell? ⟨g, bk * 4 + 1, none⟩ = some (.int .i64 p.y) ∧ w'.cell? ⟨g, bk * 4 + 2, none⟩ = some (.int .i64 p.w) ∧ w'.cell? ⟨g, bk * 4 + 3, none⟩ = some (.int .i64 p.h)) ∧ (w'.cell? ⟨g, (bk + 1) * 4, none⟩ = some (.int .i64 r.x) ∧ w'.cell? ⟨g, (bk + 1) * 4 + 1, none⟩ = some (.int .i64 r.y) ∧ w'.cell? ⟨g, (bk + 1) * 4 + 2, none⟩ = some (.int .i64 r.w) ∧ w'.cell? ⟨g, (bk + 1) * 4 + 3, none⟩ = some (.int .i64 r.h))) (by kernel_rfl) (by kernel_rfl) ⟨(Ext.refl _ _).drew, SK.out _ (Ext.refl _ _).drew⟩ (fun hO hHeld => ?_)
              refine wpAnyT_takeD (i := 0) (d := some 129) (v := ?_) hO rfl rfl (by kernel_rfl) (fun _ _ _ h => h) (Or.inl ⟨by rfl, ?_⟩) (by exact hHeld) ?_
              rotate_left
              · intro w' hSw
                obtain ⟨_, ⟨z1, z2, z3, z4⟩, ⟨z5, z6, z7, z8⟩⟩ := hSw
                go_simp
                try (with_reducible rfl)
              try simp only [Act.put, List.setIfInBounds_toArray, List.set_cons_zero, List.set_cons_succ]
              refine wpAnyT_takeD (i := 1) (d := some 130) (v := ?_) hO rfl rfl (by kernel_rfl) (fun _ _ _ h => h) (Or.inl ⟨by rfl, ?_⟩) (by exact hHeld) ?_
              rotate_left
              · intro w' hSw
                obtain ⟨_, ⟨z1, z2, z3, z4⟩, ⟨z5, z6, z7, z8⟩⟩ := hSw
                go_simp
                try (with_reducible rfl)
              try simp only [Act.put, List.setIfInBounds_toArray, List.set_cons_zero, List.set_cons_succ]
              refine wpAnyT_takeD (i := 2) (d := some 131) (v := ?_) hO rfl rfl (by kernel_rfl) (fun _ _ _ h => h) (Or.inl ⟨by rfl, ?_⟩) (by exact hHeld) ?_
              rotate_left
              · intro w' hSw
                obtain ⟨_, ⟨z1, z2, z3, z4⟩, ⟨z5, z6, z7, z8⟩⟩ := hSw
                go_simp
                try (with_reducible rfl)
              try simp only [Act.put, List.setIfInBounds_toArray, List.set_cons_zero, List.set_cons_succ]
              refine wpAnyT_takeD (i := 3) (d := some 132) (v := ?_) hO rfl rfl (by kernel_rfl) (fun _ _ _ h => h) (Or.inl ⟨by rfl, ?_⟩) (by exact hHeld) ?_
              rotate_left
              · intro w' hSw
                obtain ⟨_, ⟨z1, z2, z3, z4⟩, ⟨z5, z6, z7, z8⟩⟩ := hSw
                go_simp
                try (with_reducible rfl)
              try simp only [Act.put, List.setIfInBounds_toArray, List.set_cons_zero, List.set_cons_succ]
              refine wpAnyT_takeD (i := 4) (d := some 133) (v := ?_) hO rfl rfl (by kernel_rfl) (fun _ _ _ h => h) (Or.inl ⟨by rfl, ?_⟩) (by exact hHeld) ?_
              rotate_left
              · intro w' hSw
                obtain ⟨_, ⟨z1, z2, z3, z4⟩, ⟨z5, z6, z7, z8⟩⟩ := hSw
                go_simp
                try (with_reducible rfl)
              try simp only [Act.put, List.setIfInBounds_toArray, List.set_cons_zero, List.set_cons_succ]
              refine wpAnyT_takeD (i := 5) (d := some 134) (v := ?_) hO rfl rfl (by kernel_rfl) (fun _ _ _ h => h) (Or.inl ⟨by rfl, ?_⟩) (by exact hHeld) ?_
              rotate_left
              · intro w' hSw
                obtain ⟨_, ⟨z1, z2, z3, z4⟩, ⟨z5, z6, z7, z8⟩⟩ := hSw
                go_simp
                try (with_reducible rfl)
              try simp only [Act.put, List.setIfInBounds_toArray, List.set_cons_zero, List.set_cons_succ]
              refine wpAnyT_takeD (i := 6) (d := some 135) (v := ?_) hO rfl rfl (by kernel_rfl) (fun _ _ _ h => h) (Or.inl ⟨by rfl, ?_⟩) (by exact hHeld) ?_
              rotate_left
              · intro w' hSw
                obtain ⟨_, ⟨z1, z2, z3, z4⟩, ⟨z5, z6, z7, z8⟩⟩ := hSw
                go_simp
                try (with_reducible rfl)
              try simp only [Act.put, List.setIfInBounds_toArray, List.set_cons_zero, List.set_cons_succ]
              refine wpAnyT_takeD (i := 7) (d := some 136) (v := ?_) hO rfl rfl (by kernel_rfl) (fun _ _ _ h => h) (Or.inl ⟨by rfl, ?_⟩) (by exact hHeld) ?_
              rotate_left
              · intro w' hSw
                obtain ⟨_, ⟨z1, z2, z3, z4⟩, ⟨z5, z6, z7, z8⟩⟩ := hSw
                go_simp
                try (with_reducible rfl)
              try simp only [Act.put, List.setIfInBounds_toArray, List.set_cons_zero, List.set_cons_succ]
              refine wpAnyT_takeD (i := 8) (d := some 137) (v := ?_) hO rfl rfl (by kernel_rfl) (fun _ _ _ h => h) (Or.inl ⟨by rfl, ?_⟩) (by exact hHeld) ?_
              rotate_left
              · intro w' hSw
                obtain ⟨_, ⟨z1, z2, z3, z4⟩, ⟨z5, z6, z7, z8⟩⟩ := hSw
                go_simp
                try (with_reducible rfl)
              try simp only [Act.put, List.setIfInBounds_toArray, List.set_cons_zero, List.set_cons_succ]
              refine wpAnyT_takeD (i := 9) (d := some 138) (v := ?_) hO rfl rfl (by kernel_rfl) (fun _ _ _ h => h) (Or.inl ⟨by rfl, ?_⟩) (by exact hHeld) ?_
              rotate_left
              · intro w' hSw
                obtain ⟨_, ⟨z1, z2, z3, z4⟩, ⟨z5, z6, z7, z8⟩⟩ := hSw
                go_simp
                try (with_reducible rfl)
              try simp only [Act.put, List.setIfInBounds_toArray, List.set_cons_zero, List.set_cons_succ]
              refine wpAnyT_takeD (i := 10) (d := some 139) (v := ?_) hO rfl rfl (by kernel_rfl) (fun _ _ _ h => h) (Or.inl ⟨by rfl, ?_⟩) (by exact hHeld) ?_
              rotate_left
              · intro w' hSw
                obtain ⟨_, ⟨z1, z2, z3, z4⟩, ⟨z5, z6, z7, z8⟩⟩ := hSw
                go_simp
                try (with_reducible rfl)
              try simp only [Act.put, List.setIfInBounds_toArray, List.set_cons_zero, List.set_cons_succ]
              clear hHeld
              refine wpAnyT_one (i := 11) rfl (by kernel_rfl) (by rfl) (fun K hK => ?_)
              go_simp
              refine (Both_calls p r _ hps hrs).mono ?_
              rintro e w5 ⟨rfl, e5⟩
              have x1 : Ext Nope wr w5 := ext0 (Ext.refl _ _).drew e5
              clear e5
              try go_simp
              refine hK.out _ _ ⟨x1, SK.out _ x1⟩ (fun _ => ?_)
              clear hK K
              try simp only [Act.put, List.setIfInBounds_toArray, List.set_cons_zero, List.set_cons_succ]
              refine wpAnyT_done (by kernel_rfl) ⟨by kernel_rfl, ?_⟩
              simp only [List.drop_succ_cons, List.drop_zero]
              obtain ⟨⟨i0, i1, i2, i3⟩, ⟨_, _, _, _⟩⟩ := SK.out _ x1
              have hO5 : RectsAt w5 w.heap.size (.slice (some ⟨g, 0, none⟩) q cap) rs := own_ext HG4.out x1 (fun _ _ z => z)
              have f0 := rects_free hO5 (bk * 4)
              have f1 := rects_free hO5 (bk * 4 + 1)
              have f2 := rects_free hO5 (bk * 4 + 2)
              have f3 := rects_free hO5 (bk * 4 + 3)
              have hO6 : RectsAt ((((w5.setCell ⟨g, bk * 4, none⟩ (.int .i64 (bothR p r).x)).setCell ⟨g, bk * 4 + 1, none⟩ (.int .i64 (bothR p r).y)).setCell ⟨g, bk * 4 + 2, none⟩ (.int .i64 (bothR p r).w)).setCell ⟨g, bk * 4 + 3, none⟩ (.int .i64 (bothR p r).h)) w.heap.size _ _ := rects_put hO5 HST.out.2.2.2.1 HST.out.2.2.2.2 (bothR p r)
              have E6 : Ext Nope w ((((w5.setCell ⟨g, bk * 4, none⟩ (.int .i64 (bothR p r).x)).setCell ⟨g, bk * 4 + 1, none⟩ (.int .i64 (bothR p r).y)).setCell ⟨g, bk * 4 + 2, none⟩ (.int .i64 (bothR p r).w)).setCell ⟨g, bk * 4 + 3, none⟩ (.int .i64 (bothR p r).h)) := put4_ext (ext0 (ext0 HG.out.2 hE) x1) g (bk * 4) (bothR p r) (fun z => absurd hgh (by omega))
              have H6 := toHid (show _ ∧ _ from ⟨hO6, E6⟩)
              clear hO5 hO6 E6
              go_upto_region 25 with fail
              clear x1 i0 i1 i2 i3 f0 f1 f2 f3 s1 s2 s3 s4 s5 s6 SK
              generalize ((((w5.setCell ⟨g, bk * 4, none⟩ (.int .i64 (bothR p r).x)).setCell ⟨g, bk * 4 + 1, none⟩ (.int .i64 (bothR p r).y)).setCell ⟨g, bk * 4 + 2, none⟩ (.int .i64 (bothR p r).w)).setCell ⟨g, bk * 4 + 3, none⟩ (.int .i64 (bothR p r).h)) = w6 at *
              obtain ⟨hO6, E6⟩ := H6.out
              obtain ⟨_, _, hqc, hcm, sp, hRow, hRl⟩ := rects_row hO6
              obtain ⟨sp', hsp⟩ := cut_row p1 p3 (bothR p r) r sp bk HST.out.2.2.2.2
              have hsrc := row_src hRow (bk + 2)
              rw [drop_two p1 p3 _ r bk HST.out.2.2.2.2] at hsrc
              have hfit : 0 + (bk + 1) * 4 + (rectCells p3).length ≤ (rectCells (p1 ++ bothR p r :: r :: p3) ++ sp).length := by rw [hRl, rectCells_length, HQ3.out]; omega
              have hlen3 : (rectCells p3).length = (q - (bk + 2)) * 4 := by rw [rectCells_length, HQ3.out]
              have hroom : bk + 1 + (q - (bk + 2)) ≤ cap := by omega
              have HX := toHid (show _ ∧ _ ∧ _ ∧ _ ∧ _ ∧ _ ∧ _ from ⟨hRow, hsrc, hfit, hlen3, hsp, hRl, E6⟩)
              clear hRow hsrc hfit hlen3 hsp hRl E6 hO6 H6
              have hone := rectCells_oneCell p3
              have fin : ∀ w7, Hid (Row w7 g (splice (rectCells (p1 ++ bothR p r :: r :: p3) ++ sp) (0 + (bk + 1) * 4) (rectCells p3))) → Ext (fun k => k = g) w6 w7 → RectsAt w7 w.heap.size (.slice (some ⟨g, 0, none⟩) (q - 1) cap) (p1 ++ bothR p r :: p3) ∧ Ext Nope w w7 := fun w7 HR7 E7 => by
                have h7 := HR7.out
                rw [Nat.zero_add] at h7
                have hl7 := length_splice (rectCells (p1 ++ bothR p r :: r :: p3) ++ sp) ((bk + 1) * 4) (rectCells p3) (by have := HX.out.2.2.1; omega)
                rw [HX.out.2.2.2.2.1] at h7 hl7
                have hj := HST.out.2.1
                have hR := row_rects (base := w.heap.size) h7 rfl (by rw [hl7]; exact HX.out.2.2.2.2.2.1) hgh (by rw [hj]; omega) hcm
                rw [hj] at hR
                exact ⟨hR, HX.out.2.2.2.2.2.2.trans E7 (fun i hi z => absurd hgh (by omega))⟩
              have HFIN := toHid fin
              have s1 : IntKind.i64.wrap ((bk : Int) + 1) = (bk : Int) + 1 := IntWalk.i64_in _ (by omega)
              have s7 : IntKind.i64.wrap ((bk : Int) + 2) = (bk : Int) + 2 := IntWalk.i64_in _ (by omega)
              have s2 : (0 : Int) ≤ (bk : Int) + 1 := by omega
              have s3 : (bk : Int) + 1 ≤ (cap : Int) := by omega
              have s6 : ((bk : Int) + 1).toNat = bk + 1 := by omega
              have s4 : (0 : Int) ≤ (bk : Int) + 2 := by omega
              have s5 : (bk : Int) + 2 ≤ (q : Int) := by omega
              have s8 : ((bk : Int) + 2).toNat = bk + 2 := by omega
              have s9 : (q : Int) ≤ (cap : Int) := by omega
              have t1 : bk + 1 + (q - (bk + 2)) = q - 1 := by omega
              clear fin
              by_cases hcb : cap = bk + 2
              · subst hcb
                have hp3 : p3 = [] := List.eq_nil_of_length_eq_zero (by rw [HQ3.out]; omega)
                have HP3 := toHid hp3
                have hsrc0 : ∀ (ad : Addr) (W : World) (j : Nat) (v : Value), (rectCells p3)[j]? = some v → W.cell? (ad.add j) = some v := fun ad W j v hv => by rw [HP3.out] at hv; simp [rectCells] at hv
                have HS0 := toHid hsrc0
                clear hp3 hsrc0
                go_still_tail 8, (by kernel_rfl)
                change wpList _ _ _ _ _ w6.drew
                clear s1 s2 s3 s4 s5 s6 s7 s8 s9
                refine wl_room rfl (.tmp 145) (.tmp 149) 46 rfl Tryd.underlying46 g 0 (bk + 1) (bk + 2) ⟨g, 0, none⟩ 0 0 rfl rfl (rectCells (p1 ++ bothR p r :: r :: p3) ++ sp) HX.out.1 (rectCells p3) (by rw [HP3.out]; rfl) (by omega) (HS0.out _ _) HX.out.2.2.1 hone ?_
                intro w7 HR7 E7
                rw [show bk + 1 + 0 = q - 1 by omega]
                obtain ⟨hR, E8⟩ := HFIN.out w7 HR7 ((Ext.refl _ _).drew.trans E7 (fun _ _ h => h))
                have HZ := toHid (show _ ∧ _ from ⟨hR, E8⟩)
                clear hR E8 HR7 E7
                go_wp2
                go_roundw
                case rel => exact ⟨f', _, HST.out.1, by rw [HST.out.2.1]; omega, by omega, HST.out.2.2.1, HZ.out.1, HZ.out.2⟩
                case measure => simp [lenOf]; omega
              · go_still_tail 8, (by kernel_rfl)
                change wpList _ _ _ _ _ w6.drew
                clear s1 s2 s3 s4 s5 s6 s7 s8 s9
                refine wl_room rfl (.tmp 145) (.tmp 149) 46 rfl Tryd.underlying46 g 0 (bk + 1) cap ⟨g, (bk + 2) * 4, none⟩ (q - (bk + 2)) (cap - (bk + 2)) rfl rfl (rectCells (p1 ++ bothR p r :: r :: p3) ++ sp) HX.out.1 (rectCells p3) HX.out.2.2.2.1 hroom HX.out.2.1 HX.out.2.2.1 hone ?_
                intro w7 HR7 E7
                rw [t1]
                obtain ⟨hR, E8⟩ := HFIN.out w7 HR7 ((Ext.refl _ _).drew.trans E7 (fun _ _ h => h))
                have HZ := toHid (show _ ∧ _ from ⟨hR, E8⟩)
                clear hR E8 HR7 E7
                go_wp2
                go_roundw
                case rel => exact ⟨f', _, HST.out.1, by rw [HST.out.2.1]; omega, by omega, HST.out.2.2.1, HZ.out.1, HZ.out.2⟩
                case measure => simp [lenOf]; omega
        · rw [thin_end' (by omega)] at hth
          have hfin : thinA 1048576 many 65 rs0 = rs := hth.symm
          have HF := toHid hfin
          clear hfin hth
          obtain ⟨av, cp, hvr, _⟩ := own_gen g2
          obtain ⟨q, HQ⟩ : ∃ q, Hid (rs.length = q) := ⟨_, rfl⟩
          have hle : (q : Int) ≤ (many : Int) := by rw [← HQ.out]; omega
          rw [HQ.out] at hvr
          subst hvr
          have G2 := toHid (show _ ∧ _ from ⟨g2, g3⟩)
          clear g2 g3 hlm hf
          go_wp2
          go_ret
          exact ⟨_, rfl, by rw [HRS.out, HF.out]; exact G2.out.1, G2.out.2⟩
end Go.Proofs.YtmmcadbkmfjcbaaDoor
