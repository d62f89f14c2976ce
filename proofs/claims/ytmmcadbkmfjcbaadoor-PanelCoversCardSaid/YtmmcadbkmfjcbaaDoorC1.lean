/-
  The iterator over the pieces.
-/
import Derived.Test.YtmmcadbkmfjcbaaDoorC0
import Derived.RangeFuncNested
import Derived.RangeFuncBound
import Derived.RangeFuncCalls
import Derived.RangeFuncLeaves
import Derived.Shelf.Abstract
import Derived.Shelf.RegionOpen
import Derived.WalkKit
import Derived.OwnWalkIn
import Derived.TacticsInMore
import Derived.LoopNIn
import Derived.LoopIn
import Derived.StillTailTactics
namespace Go.Proofs.YtmmcadbkmfjcbaaDoor
open Go.RowKit
attribute [local go_sem] alloc_drewN setCell_drewN

theorem wide_fn (f : FuncId) : Fence.wide.fn f = True := rfl
attribute [local go_sem] wide_fn

/-- panel.pieces -/
theorem pieces_calls (v1 v2 : Value) (n : Nat) (w : World) (h1 : v1.oneCell' = true) (h2 : v2.oneCell' = true) : Calls Tryd.prog 39 #[v1, v2, .int .i64 n] w fun e w' =>
    e = .returned (.func (.func 53) #[] #[.pointer (some ⟨w.heap.size, 0, none⟩), .pointer (some ⟨w.heap.size + 1, 0, none⟩), .pointer (some ⟨w.heap.size + 2, 0, none⟩)]) ∧ w' = ((w.alloc (.cells #[v1] 32)).alloc (.cells #[v2] 32)).alloc (.cells #[.int .i64 n] 3) := by
  go_enter Tryd.func39, Tryd.ntmps39
  go_wp2
  go_ret
  exact ⟨rfl, rfl⟩

abbrev putR (W : World) (g : Nat) (r : R) : World := (((W.setCell ⟨g, 0, none⟩ (.int .i64 r.x)).setCell ⟨g, 1, none⟩ (.int .i64 r.y)).setCell ⟨g, 2, none⟩ (.int .i64 r.w)).setCell ⟨g, 3, none⟩ (.int .i64 r.h)
theorem putR_heap {W : World} {g : Nat} {c : R} (r : R) (h : W.heap[g]? = some (.cells (rCells c) 31 (0, 0))) : (putR W g r).heap[g]? = some (.cells (rCells r) 31 (0, 0)) :=
  set_r (r := ⟨r.x, r.y, r.w, c.h⟩) (r' := r) (k := 3) (set_r (r := ⟨r.x, r.y, c.w, c.h⟩) (r' := ⟨r.x, r.y, r.w, c.h⟩) (k := 2) (set_r (r := ⟨r.x, c.y, c.w, c.h⟩) (r' := ⟨r.x, r.y, c.w, c.h⟩) (k := 1) (set_r (r' := ⟨r.x, c.y, c.w, c.h⟩) (k := 0) h rfl) rfl) rfl) rfl
theorem putR_ext {S : Nat → Prop} {w W : World} (g : Nat) (r : R) (h : Ext S w W) (hg : g < w.heap.size → S g) : Ext S w (putR W g r) :=
  (((h.setCell _ _ hg _).setCell _ _ hg _).setCell _ _ hg _).setCell _ _ hg _

theorem diffA_bits (n x y : Nat) (hx : x < 18446744073709551616) (hy : y < 18446744073709551616) (_hn1 : 1 ≤ n) (hn : n ≤ 64) : bits .and .u64 (bits .xor .u64 (x : Int) (y : Int)) ((2 ^ n - 1 : Nat) : Int) = ((diffA n x y : Nat) : Int) := by
  have hm : 2 ^ n - 1 < 18446744073709551616 := by have : 2 ^ n ≤ 2 ^ 64 := Nat.pow_le_pow_right (by omega) hn; have := Nat.two_pow_pos n; omega
  rw [bits_xor_u64_nat x y hx hy, bits_and_u64_nat (x ^^^ y) _ (show x ^^^ y < 2 ^ 64 from Nat.xor_lt_two_pow hx hy) hm]
  rfl

set_option maxRecDepth 100000 in
set_option maxHeartbeats 4000000 in
/-- panel.pieces$1, for a body that always goes on. J holds between two rounds; the body may turn blocks of S and what it has made itself. -/
theorem pieces1_calls {w : World} (l A1 A2 A3 n : Nat) (v1 v2 : Value) (xs ys : List Nat) (S : Nat → Prop) (J : List R → World → Prop)
    (hn1 : 1 ≤ n) (hn : n ≤ 64) (hlen : ys.length = xs.length) (hl : xs.length ≤ 64) (hux : U64 xs) (huy : U64 ys)
    (hS : ∀ k, S k → k < w.heap.size) (hv1 : ∃ av cap, v1 = .slice av xs.length cap) (hv2 : ∃ av cap, v2 = .slice av ys.length cap)
    (F : ∀ W, Ext S w W → W.cell? ⟨A1, 0, none⟩ = some v1 ∧ W.cell? ⟨A2, 0, none⟩ = some v2 ∧ W.cell? ⟨A3, 0, none⟩ = some (.int .i64 n) ∧ Reads W v1 xs ∧ Reads W v2 ys ∧ Tab W)
    (hJ : ∀ pre A B, J pre A → Ext (fun k => k = w.heap.size) A B → J pre B)
    (hY : ∀ pre x W, J pre W → w.heap.size < W.heap.size → pre.length ≤ 64 → YieldAt Fence.wide 2 Tryd.prog l #[x.val] W fun e W' => e = .returned (.bool true) ∧ J (pre ++ [x]) W' ∧ Ext (fun k => S k ∨ w.heap.size < k) W W')
    (h0 : J [] w) :
    Calls Tryd.prog 53 #[.func (.yield l) #[] #[], .pointer (some ⟨A1, 0, none⟩), .pointer (some ⟨A2, 0, none⟩), .pointer (some ⟨A3, 0, none⟩)] w fun e w' => (∃ v, e = .returned v) ∧ J (piecesF n xs ys) w' := by
  refine (callsIn_wide (n := 3)).1 (callsIn_of_wp Tryd.func53 rfl trivial ?_)
  simp only [Tryd.ntmps53, List.size_toArray, List.length_cons, List.length_nil, Nat.reduceAdd, Nat.reduceSub, Array.replicate_succ, Array.replicate_zero, List.push_toArray, List.append_toArray, List.nil_append, List.cons_append]
  have E1 : Ext S w (w.alloc (.cells #[.int .i64 0, .int .i64 0, .int .i64 0, .int .i64 0] 31)) := (Ext.refl _ _).alloc _
  have C1 : (w.alloc (.cells #[.int .i64 0, .int .i64 0, .int .i64 0, .int .i64 0] 31)).heap[w.heap.size]? = some (.cells (rCells zeroR) 31 (0, 0)) := heap_alloc_new _ _
  have J1 := hJ [] _ _ h0 ((Ext.refl (fun k => k = w.heap.size) w).alloc (.cells #[.int .i64 0, .int .i64 0, .int .i64 0, .int .i64 0] 31))
  have HF := toHid F
  have HJ := toHid hJ
  have HY := toHid hY
  have HS := toHid hS
  obtain ⟨av1, cap1, hv1⟩ := hv1
  obtain ⟨av2, cap2, hv2⟩ := hv2
  obtain ⟨m, HN⟩ : ∃ m, Hid (xs.length = m) := ⟨_, rfl⟩
  have HN2 := toHid (hlen.trans HN.out)
  rw [HN.out] at hv1 hl
  rw [HN2.out] at hv2
  subst hv1 hv2
  have k1 := (HF.out _ E1).1
  clear F hJ hY hS h0 hlen
  gi_wp2
  clear k1
  generalize hg : w.heap.size = g at *
  generalize w.alloc (.cells #[.int .i64 0, .int .i64 0, .int .i64 0, .int .i64 0] 31) = w2 at *
  gi_loopw [12] (fun i wr => ∃ k : Nat, i = .int .i64 k ∧ k ≤ m ∧ wr.heap[g]? = some (.cells (rCells (piecesA n xs ys k).2) 31 (0, 0)) ∧ J (piecesA n xs ys k).1 wr ∧ Ext S w wr) (fun i _ => m - (intOf i).toNat)
  case atStart => exact ⟨0, rfl, Nat.zero_le _, C1, J1, E1⟩
  case round =>
    obtain ⟨k, rfl, hk, hC, hJk, hE⟩ := hrel
    clear C1 J1 E1
    by_cases hkm : k < m
    · obtain ⟨x, hx⟩ := some_at hkm HN.out
      obtain ⟨y, hy⟩ := some_at hkm HN2.out
      have hx64 := hux.at hx
      have hy64 := huy.at hy
      obtain ⟨k1, k2, k3, k4, k5, k6⟩ := HF.out _ hE
      obtain ⟨b1, o1, rfl, q1, q2⟩ := k4.at (by omega)
      obtain ⟨b2, o2, rfl, q3, q4⟩ := k5.at (by omega)
      have c1 := q2 k x hx
      have c2 := q4 k y hy
      clear q1 q2 q3 q4 k4 k5
      have hq := fun W' => (mask_calls n W' hn1 hn).mono (fun _ _ h => (⟨h.1, h.2.symm⟩ : _ ∧ _))
      have HQ := toHid hq
      clear hq
      have hst : piecesA n xs ys (k + 1) = stepA n x y k (piecesA n xs ys k) := by rw [piecesA, List.getD_eq_getElem?_getD, List.getD_eq_getElem?_getD, hx, hy]; rfl
      have hbit := diffA_bits n x y hx64 hy64 hn1 hn
      have hd64 := diffA_lt n x y hn
      obtain ⟨p1, p2, p3⟩ := piecesA_spec n xs ys hn k
      unfold stepA at hst
      obtain ⟨d, hd⟩ : ∃ d, diffA n x y = d := ⟨_, rfl⟩
      rw [hd] at hst hbit hd64
      obtain ⟨st, hs⟩ : ∃ st, piecesA n xs ys k = st := ⟨_, rfl⟩
      rw [hs] at hst hC hJk p1 p2 p3
      obtain ⟨out, c⟩ := st
      have HST := toHid hst
      have hm : 2 ^ n - 1 < 18446744073709551616 := by have : 2 ^ n ≤ 2 ^ 64 := Nat.pow_le_pow_right (by omega) hn; have := Nat.two_pow_pos n; omega
      clear hx hy hd hs hst
      simp only at hC hJk p1 p2 p3
      gi_wp2
      refine wpIn_wide.2 ?_
      have s3 : (0 : Int) ≤ (k : Int) := by omega
      have s4 : (k : Int) < (m : Int) := by omega
      have s5 : ((k : Int)).toNat = k := by omega
      go_still_tail 12, (by kernel_rfl)
      still_call (HQ.out _)
      still_step
      refine wpStill_nil ?_
      change wpList _ _ _ _ _ wr.drew
      clear k1 k2 k3 c1 c2 s3 s4 s5 HQ hbit hx64 hy64 hm
      have hC1 : wr.drew.heap[g]? = some (.cells (rCells c) 31 (0, 0)) := hC
      have hJ1 := HJ.out _ _ _ hJk (Ext.refl (fun k => k = g) wr).drew
      have hE1 := hE.drew
      have k7 : Tab wr.drew := k6.ext0 (Ext.refl Nope wr).drew
      clear hC hJk hE k6
      generalize wr.drew = wd at *
      have hgl := lt_of_heap hC1
      obtain ⟨e0, e1, e2, e3⟩ := r_cells hC1
      obtain ⟨f0, f1, f2, f3⟩ := free_r hC1
      by_cases hd0 : d = 0
      · subst hd0
        clear k7
        rw [if_pos rfl] at HST
        by_cases hh : 0 < c.h
        · rw [if_pos hh] at HST
          obtain ⟨fn, tmps, assign, body, hy, hR⟩ := HY.out _ c wd hJ1 hgl (by omega)
          dsimp only [R.val] at hy
          go_wp2
          gi_wp2
          refine hR.mono ?_
          rintro e W5 ⟨rfl, hJ5, e5⟩
          have hC5 := (e5.block g hgl (fun z => by rcases z with z | z; exact absurd (HS.out _ z) (by omega); omega)).trans hC1
          have hE5 : Ext S w W5 := hE1.trans e5 (fun i hi z => by rcases z with z | z; exact z; omega)
          obtain ⟨e0', e1', e2', e3'⟩ := r_cells hC5
          obtain ⟨f0', f1', f2', f3'⟩ := free_r hC5
          clear e0 e1 e2 e3 f0 f1 f2 f3 hR hy
          gi_wp2
          go_roundw
          case rel => exact ⟨k + 1, by go_num, by omega, by rw [HST.out]; exact putR_heap zeroR hC5, by rw [HST.out]; exact HJ.out _ _ _ hJ5 (putR_ext g zeroR (Ext.refl _ _) (fun _ => rfl)), putR_ext g zeroR hE5 (fun z => absurd z (by omega))⟩
          case measure => simp [intOf]; omega
        · rw [if_neg hh] at HST
          have hh' : c.h ≤ 0 := by omega
          go_wp2
          gi_wp2
          go_roundw
          case rel => exact ⟨k + 1, by go_num, by omega, by rw [HST.out]; exact hC1, by rw [HST.out]; exact hJ1, hE1⟩
          case measure => simp [intOf]; omega
      · have HTZ := toHid (fun (hT : Tab wd) => tz64_calls d wd hd64 hd0 hT)
        have HLZ := toHid (fun W' => len64_calls d W' hd64)
        obtain ⟨z1, z2⟩ := span_bounds d hd64 hd0
        have z3 : IntKind.i64.wrap ((Lib.bitLen d : Int) - (Lib.ctz 64 d : Int)) = (Lib.bitLen d : Int) - (Lib.ctz 64 d : Int) := IntWalk.i64_in _ (by omega)
        have hdz : ((d : Int) == 0) = false := by simp; omega
        rw [if_neg hd0] at HST
        obtain ⟨lz, hlz⟩ : ∃ lz, Lib.ctz 64 d = lz := ⟨_, rfl⟩
        obtain ⟨bl, hbl⟩ : ∃ bl, Lib.bitLen d = bl := ⟨_, rfl⟩
        have hsp : spanA d k = ⟨lz, k, (bl : Int) - lz, 1⟩ := by unfold spanA; rw [hlz, hbl]
        rw [hlz, hbl] at z3
        rw [hlz] at HTZ z1
        rw [hbl] at HLZ z1 z2
        rw [hsp] at HST
        have HSP := toHid hsp
        clear hlz hbl hsp
        have hss : R.small ⟨lz, k, (bl : Int) - lz, 1⟩ := by unfold R.small; simp only; omega
        have hcs : c.small := p3.small (by omega)
        obtain ⟨br, hbr⟩ : ∃ br, bothR c ⟨lz, k, (bl : Int) - lz, 1⟩ = br := ⟨_, rfl⟩
        by_cases hh : 0 < c.h
        · rw [if_pos hh, hbr] at HST
          have B1 : ((wd.alloc (.cells #[.int .i64 lz, .int .i64 k, .int .i64 ((bl : Int) - lz), .int .i64 1] 31)).alloc (.cells #[.int .i64 c.x, .int .i64 c.y, .int .i64 c.w, .int .i64 c.h, .int .i64 lz, .int .i64 k, .int .i64 ((bl : Int) - lz), .int .i64 1] 31)).heap[g]? = some (.cells (rCells c) 31 (0, 0)) := ((heap_alloc_old _ _ _ (by simp; omega)).trans (heap_alloc_old _ _ _ hgl)).trans hC1
          have B2 : ((wd.alloc (.cells #[.int .i64 lz, .int .i64 k, .int .i64 ((bl : Int) - lz), .int .i64 1] 31)).alloc (.cells #[.int .i64 c.x, .int .i64 c.y, .int .i64 c.w, .int .i64 c.h, .int .i64 lz, .int .i64 k, .int .i64 ((bl : Int) - lz), .int .i64 1] 31)).heap[wd.heap.size]? = some (.cells (rCells ⟨lz, k, (bl : Int) - lz, 1⟩) 31 (0, 0)) := (heap_alloc_old _ _ _ (by simp)).trans (heap_alloc_new _ _)
          have B3 : ((wd.alloc (.cells #[.int .i64 lz, .int .i64 k, .int .i64 ((bl : Int) - lz), .int .i64 1] 31)).alloc (.cells #[.int .i64 c.x, .int .i64 c.y, .int .i64 c.w, .int .i64 c.h, .int .i64 lz, .int .i64 k, .int .i64 ((bl : Int) - lz), .int .i64 1] 31)).heap[wd.heap.size + 1]? = some (.cells (twoCells c ⟨lz, k, (bl : Int) - lz, 1⟩) 31 (0, 0)) := heap_alloc_at _ _ _ (by simp)
          have B4 : Ext (fun b => b = g) wd ((wd.alloc (.cells #[.int .i64 lz, .int .i64 k, .int .i64 ((bl : Int) - lz), .int .i64 1] 31)).alloc (.cells #[.int .i64 c.x, .int .i64 c.y, .int .i64 c.w, .int .i64 c.h, .int .i64 lz, .int .i64 k, .int .i64 ((bl : Int) - lz), .int .i64 1] 31)) := ((Ext.refl _ _).alloc _).alloc _
          have HAR := around_calls c ⟨lz, k, (bl : Int) - lz, 1⟩ _ _ hcs hss B3
          rw [hbr] at HAR
          have HAR := toHid HAR
          have HB := toHid (show _ ∧ _ ∧ _ from ⟨B1, B2, B4⟩)
          have hne : ¬ g = wd.heap.size := by omega
          have hne' : ¬ wd.heap.size = g := by omega
          clear B1 B2 B3 B4
          go_wp2
          gi_wp2_with (first
            | (gi_at_call 54; refine (callsIn_wide.2 (HTZ.out k7)).mono ?_; rintro e w' ⟨rfl, rfl⟩)
            | (gi_at_call 55; refine (callsIn_wide.2 (HLZ.out _)).mono ?_; rintro e w' ⟨rfl, rfl⟩)
            | (gi_at_call 40; refine (callsIn_wide.2 HAR.out).mono ?_; rintro e W5 ⟨rfl, e5⟩; obtain ⟨B1, B2, B4⟩ := HB.out; have Q1 := (e5.block _ (lt_of_heap B1) (fun z => z)).trans B1; have Q2 := (e5.block _ (lt_of_heap B2) (fun z => z)).trans B2; have Q3 := ext0 B4 e5; obtain ⟨e0', e1', e2', e3'⟩ := r_cells Q1; obtain ⟨f0', f1', f2', f3'⟩ := free_r Q1; obtain ⟨e0'', e1'', e2'', e3''⟩ := r_cells Q2; obtain ⟨f0'', f1'', f2'', f3''⟩ := free_r Q2; clear B1 B2 B4 e0 e1 e2 e3 f0 f1 f2 f3))
          have R1 : (putR (putR W5 wd.heap.size br) g br).heap[g]? = some (.cells (rCells br) 31 (0, 0)) := putR_heap (c := c) br (((putR_ext (S := fun b => b = wd.heap.size) wd.heap.size br (Ext.refl _ W5) (fun _ => rfl)).block g (lt_of_heap Q1) hne).trans Q1)
          go_roundw
          case rel => exact ⟨k + 1, by go_num, by omega, by rw [HST.out]; exact R1, by rw [HST.out]; exact HJ.out _ _ _ hJ1 (putR_ext g br (putR_ext wd.heap.size br Q3 (fun z => absurd z (by omega))) (fun _ => rfl)), putR_ext g br (putR_ext wd.heap.size br (hE1.trans Q3 (fun i hi z => absurd hi (by omega))) (fun z => absurd z (by omega))) (fun z => absurd z (by omega))⟩
          case measure => simp [intOf]; omega
        · rw [if_neg hh] at HST
          have hh' : c.h ≤ 0 := by omega
          go_wp2
          gi_wp2_with (first
            | (gi_at_call 54; refine (callsIn_wide.2 (HTZ.out k7)).mono ?_; rintro e w' ⟨rfl, rfl⟩)
            | (gi_at_call 55; refine (callsIn_wide.2 (HLZ.out _)).mono ?_; rintro e w' ⟨rfl, rfl⟩))
          go_roundw
          case rel => exact ⟨k + 1, by go_num, by omega, by rw [HST.out]; exact (heap_alloc_old _ _ _ (by simpa using hgl)).trans (putR_heap ⟨lz, k, (bl : Int) - lz, 1⟩ hC1), by rw [HST.out]; exact HJ.out _ _ _ hJ1 ((putR_ext (S := fun b => b = g) g ⟨lz, k, (bl : Int) - lz, 1⟩ (Ext.refl _ _) (fun _ => rfl)).alloc _), (putR_ext g ⟨lz, k, (bl : Int) - lz, 1⟩ hE1 (fun z => absurd z (by omega))).alloc _⟩
          case measure => simp [intOf]; omega
    · have hkk : k = m := by omega
      subst hkk
      obtain ⟨p1, p2, p3⟩ := piecesA_spec n xs ys hn k
      have hpf : piecesF n xs ys = closeA (piecesA n xs ys k) := by unfold piecesF; rw [HN.out]
      generalize piecesA n xs ys k = st at *
      obtain ⟨out, c⟩ := st
      simp only at hC hJk p1 p2 p3
      unfold closeA at hpf
      simp only at hpf
      have hgl := lt_of_heap hC
      obtain ⟨e0, e1, e2, e3⟩ := r_cells hC
      by_cases hh : 0 < c.h
      · obtain ⟨fn, tmps, assign, body, hy, hR⟩ := HY.out _ c wr hJk hgl (by omega)
        dsimp only [R.val] at hy
        rw [if_pos hh] at hpf
        have HPF := toHid hpf
        clear hpf
        gi_wp2
        refine hR.mono ?_
        rintro e W5 ⟨rfl, hJ5, e5⟩
        gi_wp2
        go_end0
        exact ⟨⟨_, rfl⟩, by rw [HPF.out]; exact hJ5⟩
      · rw [if_neg hh] at hpf
        have HPF := toHid hpf
        clear hpf
        have hh' : c.h ≤ 0 := by omega
        gi_wp2
        go_end0
        exact ⟨⟨_, rfl⟩, by rw [HPF.out]; exact hJk⟩

end Go.Proofs.YtmmcadbkmfjcbaaDoor
