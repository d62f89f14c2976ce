/-
  The rectangle of a row, of the reference.
-/
import Derived.Test.YtmmcadbkmfjcbaaDoorA9
namespace Go.Proofs.YtmmcadbkmfjcbaaDoor
open Go.RowKit
attribute [local go_sem] alloc_drewN setCell_drewN

/-- The least rectangle that contains the first pixels of a row that differ; its height is 0 if there are none. -/
def rowA (a b : Nat) (y : Int) : Nat → R
  | 0 => ⟨0, y, 0, 0⟩
  | i + 1 => if a.testBit i = b.testBit i then rowA a b y i else if (rowA a b y i).h = 0 then ⟨i, y, 1, 1⟩ else ⟨(rowA a b y i).x, y, (i : Int) - (rowA a b y i).x + 1, 1⟩
theorem rowA_spec (a b : Nat) (y : Int) : ∀ n, (rowA a b y n).y = y ∧ ((rowA a b y n).h = 0 ∨ (rowA a b y n).h = 1) ∧ 0 ≤ (rowA a b y n).x ∧ (rowA a b y n).x ≤ n ∧ 0 ≤ (rowA a b y n).w ∧ (rowA a b y n).x + (rowA a b y n).w ≤ n
  | 0 => by simp [rowA]
  | n + 1 => by
    obtain ⟨h1, h2, h3, h4, h5, h6⟩ := rowA_spec a b y n
    unfold rowA
    split
    · exact ⟨h1, h2, h3, by omega, h5, by omega⟩
    · split
      · refine ⟨rfl, .inr rfl, ?_, ?_, ?_, ?_⟩ <;> simp only <;> omega
      · refine ⟨rfl, .inr rfl, ?_, ?_, ?_, ?_⟩ <;> simp only <;> omega

theorem set_r {w : World} {X : Nat} {r r' : R} {k : Nat} {v : Value} (h : w.heap[X]? = some (.cells (rCells r) 31 (0, 0))) (hs : (rCells r).setIfInBounds k v = rCells r') : (w.setCell ⟨X, k, none⟩ v).heap[X]? = some (.cells (rCells r') 31 (0, 0)) := by
  rw [← hs]
  exact heap_setCell_eq _ _ _ _ _ _ _ h
theorem free_r {w : World} {X : Nat} {r : R} (h : w.heap[X]? = some (.cells (rCells r) 31 (0, 0))) : w.frozen? ⟨X, 0, none⟩ = false ∧ w.frozen? ⟨X, 1, none⟩ = false ∧ w.frozen? ⟨X, 2, none⟩ = false ∧ w.frozen? ⟨X, 3, none⟩ = false :=
  ⟨free_of_blk h 0, free_of_blk h 1, free_of_blk h 2, free_of_blk h 3⟩

set_option maxHeartbeats 2000000 in
/-- abugidaref33.row -/
theorem row_calls (a b n : Nat) (y : Int) (w : World) (ha : a < 18446744073709551616) (hb : b < 18446744073709551616) (hn : n ≤ 64) : Calls Tryd.prog 42 #[u64 a, u64 b, .int .i64 n, .int .i64 y] w fun e w' => e = .returned (rowA a b y n).val ∧ Ext Nope w w' := by
  go_enter Tryd.func42, Tryd.ntmps42
  go_wp2
  have K8 : ((w.alloc (.cells #[.int .i64 0, .int .i64 0, .int .i64 0, .int .i64 0] 31)).alloc (.cells #[.int .i64 0, .int .i64 y, .int .i64 0, .int .i64 0] 31)).heap[w.heap.size]? = some (.cells (rCells ⟨0, 0, 0, 0⟩) 31 (0, 0)) := (heap_alloc_old _ _ _ (by simp)).trans (heap_alloc_new _ _)
  have K9 : ((w.alloc (.cells #[.int .i64 0, .int .i64 0, .int .i64 0, .int .i64 0] 31)).alloc (.cells #[.int .i64 0, .int .i64 y, .int .i64 0, .int .i64 0] 31)).heap[w.heap.size + 1]? = some (.cells (rCells (rowA a b y 0)) 31 (0, 0)) := heap_alloc_at _ _ _ (by simp)
  have E2 : Ext Nope w ((w.alloc (.cells #[.int .i64 0, .int .i64 0, .int .i64 0, .int .i64 0] 31)).alloc (.cells #[.int .i64 0, .int .i64 y, .int .i64 0, .int .i64 0] 31)) := ((Ext.refl _ _).alloc _).alloc _
  generalize (w.alloc (.cells #[.int .i64 0, .int .i64 0, .int .i64 0, .int .i64 0] 31)).alloc (.cells #[.int .i64 0, .int .i64 y, .int .i64 0, .int .i64 0] 31) = w2 at *
  go_loopw [10] (fun i wr => ∃ k : Nat, i = .int .i64 k ∧ k ≤ n ∧ wr.heap[w.heap.size]? = some (.cells (rCells ⟨0, 0, 0, 0⟩) 31 (0, 0)) ∧ wr.heap[w.heap.size + 1]? = some (.cells (rCells (rowA a b y k)) 31 (0, 0)) ∧ Ext Nope w wr) (fun i _ => n - (intOf i).toNat)
  case atStart => exact ⟨0, rfl, Nat.zero_le _, K8, K9, E2⟩
  case round =>
    obtain ⟨k, rfl, hk, K8r, K9r, hE⟩ := hrel
    clear K8 K9 E2
    by_cases hkn : k < n
    · have hb1 := bit_calls a k wr ha (by omega)
      have hb2 := bit_calls b k wr hb (by omega)
      obtain ⟨r1, r2, r3, r4, r5, r6⟩ := rowA_spec a b y k
      by_cases heq : a.testBit k = b.testBit k
      · have hnext : rowA a b y (k + 1) = rowA a b y k := by rw [rowA, if_pos heq]
        have HN := toHid hnext
        rw [← heq] at hb2
        have HB1 := toHid hb1
        have HB2 := toHid hb2
        clear hb1 hb2 heq hnext
        generalize a.testBit k = t at *
        have htt : (t != t) = false := by simp
        go_wp2_with (first
          | (go_at_call_of 48 (u64 a); refine HB1.out.mono ?_; rintro e w' ⟨rfl, rfl⟩)
          | (go_at_call_of 48 (u64 b); refine HB2.out.mono ?_; rintro e w' ⟨rfl, rfl⟩))
        go_roundw
        case rel => exact ⟨k + 1, by go_num, by omega, K8r, by rw [HN.out]; exact K9r, hE⟩
        case measure => simp [intOf]; omega
      · have htt : (a.testBit k == b.testBit k) = false := by simpa using heq
        obtain ⟨c0, c1, c2, c3⟩ := r_cells K9r
        obtain ⟨f0, f1, f2, f3⟩ := free_r K9r
        obtain ⟨r, hr⟩ : ∃ r, rowA a b y k = r := ⟨_, rfl⟩
        rw [hr] at K9r c0 c1 c2 c3 r1 r2 r3 r4 r5 r6
        have HB1 := toHid hb1
        have HB2 := toHid hb2
        rcases r2 with h0 | h1
        · have hnext : rowA a b y (k + 1) = ⟨k, y, 1, 1⟩ := by rw [rowA, if_neg heq, hr, if_pos h0]
          have HN := toHid hnext
          have hz : (k : Int) - (k : Int) + 1 = 1 := by omega
          have hres := set_r (r' := ⟨k, r.y, 1, 1⟩) (k := 2) (v := .int .i64 1) (set_r (r' := ⟨k, r.y, r.w, 1⟩) (k := 3) (v := .int .i64 1) (set_r (r' := ⟨k, r.y, r.w, r.h⟩) (k := 0) (v := .int .i64 (k : Int)) K9r rfl) rfl) rfl
          rw [r1] at hres
          have HRES := toHid hres
          rw [h0] at c3
          have k8' := fun v1 v2 v3 => (heap_setCell_ne ((wr.setCell ⟨w.heap.size + 1, 0, none⟩ v1).setCell ⟨w.heap.size + 1, 3, none⟩ v2) (w.heap.size + 1) 2 w.heap.size v3 (by omega)).trans ((heap_setCell_ne (wr.setCell ⟨w.heap.size + 1, 0, none⟩ v1) (w.heap.size + 1) 3 w.heap.size v2 (by omega)).trans ((heap_setCell_ne wr (w.heap.size + 1) 0 w.heap.size v1 (by omega)).trans K8r))
          have HK8 := toHid k8'
          clear hb1 hb2 heq hnext hres hr K9r k8' r1 h0 K8r
          generalize a.testBit k = t1 at *
          generalize b.testBit k = t2 at *
          go_wp2_with (first
            | (go_at_call_of 48 (u64 a); refine HB1.out.mono ?_; rintro e w' ⟨rfl, rfl⟩)
            | (go_at_call_of 48 (u64 b); refine HB2.out.mono ?_; rintro e w' ⟨rfl, rfl⟩))
          go_roundw
          case rel => exact ⟨k + 1, by go_num, by omega, HK8.out _ _ _, by rw [HN.out]; exact HRES.out, by repeat (first | exact hE | refine Ext.setCell ?_ _ _ (fun z => absurd z (by omega)) _)⟩
          case measure => simp [intOf]; omega
        · have hnext : rowA a b y (k + 1) = ⟨r.x, y, (k : Int) - r.x + 1, 1⟩ := by rw [rowA, if_neg heq, hr, if_neg (by omega)]
          have HN := toHid hnext
          have hres := set_r (r' := ⟨r.x, r.y, (k : Int) - r.x + 1, r.h⟩) (k := 2) (v := .int .i64 ((k : Int) - r.x + 1)) K9r rfl
          rw [r1, h1] at hres
          have HRES := toHid hres
          rw [h1] at c3
          have k8' := fun v3 => (heap_setCell_ne wr (w.heap.size + 1) 2 w.heap.size v3 (by omega)).trans K8r
          have HK8 := toHid k8'
          clear hb1 hb2 heq hnext hres hr K9r k8' r1 h1 K8r
          generalize a.testBit k = t1 at *
          generalize b.testBit k = t2 at *
          go_wp2_with (first
            | (go_at_call_of 48 (u64 a); refine HB1.out.mono ?_; rintro e w' ⟨rfl, rfl⟩)
            | (go_at_call_of 48 (u64 b); refine HB2.out.mono ?_; rintro e w' ⟨rfl, rfl⟩))
          go_roundw
          case rel => exact ⟨k + 1, by go_num, by omega, HK8.out _, by rw [HN.out]; exact HRES.out, by repeat (first | exact hE | refine Ext.setCell ?_ _ _ (fun z => absurd z (by omega)) _)⟩
          case measure => simp [intOf]; omega
    · have hkk : k = n := by omega
      subst hkk
      obtain ⟨c0, c1, c2, c3⟩ := r_cells K9r
      obtain ⟨d0, d1, d2, d3⟩ := r_cells K8r
      obtain ⟨f0, f1, f2, f3⟩ := free_r K8r
      obtain ⟨r, hr⟩ : ∃ r, rowA a b y k = r := ⟨_, rfl⟩
      rw [hr] at K9r c0 c1 c2 c3
      have HR := toHid hr
      clear hr
      have hres := set_r (r' := r) (k := 3) (v := .int .i64 r.h) (set_r (r' := ⟨r.x, r.y, r.w, 0⟩) (k := 2) (v := .int .i64 r.w) (set_r (r' := ⟨r.x, r.y, 0, 0⟩) (k := 1) (v := .int .i64 r.y) (set_r (r' := ⟨r.x, 0, 0, 0⟩) (k := 0) (v := .int .i64 r.x) K8r rfl) rfl) rfl) rfl
      obtain ⟨q0, q1, q2, q3⟩ := r_cells hres
      have HQ := toHid (show _ ∧ _ ∧ _ ∧ _ from ⟨q0, q1, q2, q3⟩)
      clear q0 q1 q2 q3 hres K8r K9r
      go_wp2
      refine bodyPost_ret (v := r.val) ?_ rfl ⟨ret_r HR.out.symm, ?_⟩
      · obtain ⟨q0, q1, q2, q3⟩ := HQ.out
        clear c0 c1 c2 c3 d0 d1 d2 d3 f0 f1 f2 f3
        simp [results, Tryd.results42, go_sem, q0, q1, q2, q3]
      · repeat (first | exact hE | refine Ext.setCell ?_ _ _ (fun z => absurd z (by omega)) _)
end Go.Proofs.YtmmcadbkmfjcbaaDoor
