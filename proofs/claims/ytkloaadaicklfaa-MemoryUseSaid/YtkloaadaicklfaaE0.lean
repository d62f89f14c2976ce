/-
  What MemoryErrors computes: true.
-/
import Derived.Test.YtkloaadaicklfaaM0
import Derived.Test.YtkloaadaicklfaaP0
namespace Go.Proofs.Ytkloaadaicklfaa
open Go.RowKit
attribute [local go_sem] alloc_drewN setCell_drewN

theorem getK_seven {xs : List Kept} {o : Own} (ho : o.f = 7) (h : ∀ x ∈ xs, x.key.f ≠ 7) : getK xs o = none := by
  unfold getK
  rw [List.find?_eq_none]
  intro x hx
  simp
  intro e
  exact h x hx (by rw [e]; exact ho)

theorem pinned_nonneg {xs : List Kept} (h : ∀ x ∈ xs, 0 ≤ x.size ∧ x.size ≤ 65536) : 0 ≤ pinnedOf xs := by
  have := (pinned_bounds (xs.map fun x => (0, x)) (by simpa using h)).1
  simpa [kepts, Function.comp_def] using this
theorem put_cases {B : Int} {xs : List Kept} (h : KOk B xs) (o : Own) (s : Int) :
    ((s < 0 ∨ 65536 < s) ∧ putA B xs o s = ([], 1, xs)) ∨ ((0 ≤ s ∧ s ≤ 65536) ∧ putA B xs o s = ([], 50, xs)) ∨ ((0 ≤ s ∧ s ≤ 65536 ∧ s ≤ B) ∧ (putA B xs o s).2.1 = 0) := by
  have hp := pinned_nonneg (h.rest o).size
  unfold putA
  split
  · exact .inl ⟨‹_›, rfl⟩
  split
  · exact .inr (.inl ⟨by omega, rfl⟩)
  · exact .inr (.inr ⟨by omega, rfl⟩)
theorem put_full {B : Int} {xs : List Kept} (h : KOk B xs) (hB : B ≤ 63) (o : Own) : putA B xs o 65536 = ([], 50, xs) := by
  have hp := pinned_nonneg (h.rest o).size
  unfold putA
  rw [if_neg (by omega), if_pos (by omega)]

structure ESt (W : World) (A : Nat → Prop) (w : World) (bm : Nat) (B : Int) (xs : List Kept) (X Y : Nat) (o : Own) (sz : Int) (v : Value) (ks : List Own) : Prop where
  mem : MAp W A w bm B xs
  key : w.heap[X]? = some (.cells (ownCells o) 34 (0, 0))
  arg : w.heap[Y]? = some (.cells #[.int .i64 o.k, .int .i64 o.n, .int .i64 o.r, .int .i64 sz] 59 (0, 0))
  list : KeysOf A w v ks
  under : Ext Nope W w
  keyA : A X
  argA : A Y
theorem ESt.act {W : World} {A : Nat → Prop} {w w' : World} {bm : Nat} {B : Int} {xs ys : List Kept} {X Y : Nat} {o : Own} {sz : Int} {v : Value} {ks : List Own} (h : ESt W A w bm B xs X Y o sz v ks) (m : MAp W A w' bm B ys) (e : Ext (Ours W A) w w') : ESt W A w' bm B ys X Y o sz v ks :=
  ⟨m, ours_block e h.keyA h.key, ours_block e h.argA h.arg, h.list.ours e, ours_end h.under e, h.keyA, h.argA⟩
theorem ESt.cells {W : World} {A : Nat → Prop} {w : World} {bm : Nat} {B : Int} {xs : List Kept} {X Y : Nat} {o : Own} {sz : Int} {v : Value} {ks : List Own} (h : ESt W A w bm B xs X Y o sz v ks) :
    w.cell? ⟨X, 0, none⟩ = some (.int .i64 o.f) ∧ w.cell? ⟨X, 1, none⟩ = some (.int .i64 o.k) ∧ w.cell? ⟨X, 2, none⟩ = some (.int .i64 o.n) ∧ w.cell? ⟨X, 3, none⟩ = some (.int .i64 o.r) ∧ w.cell? ⟨Y, 3, none⟩ = some (.int .i64 sz) :=
  ⟨cell_of_blk h.key 0, cell_of_blk h.key 1, cell_of_blk h.key 2, cell_of_blk h.key 3, cell_of_blk h.arg 3⟩

set_option maxRecDepth 100000 in
set_option maxHeartbeats 4000000 in
theorem errors_calls (n : Int) (n0 : 0 ≤ n) (n1 : n ≤ 255) (k1 k2 k3 sz : Int) (W : World) (a : Option Addr) (len cap : Nat) (ha : ActsAt W a len) (hlen : len ≤ 9223372036854775807) :
    Calls Try.prog 7 #[.int .u8 n, .slice a len cap, .agg #[.int .i64 k1, .int .i64 k2, .int .i64 k3, .int .i64 sz]] W fun e w' => e = .returned (.bool true) ∧ Ext Nope W w' := by
  have m0 : 0 ≤ n % 64 := by omega
  have m1 : n % 64 ≤ 1073741824 := by omega
  go_enter Try.func7, Try.ntmps7
  go_wp2_with fail
  refine (sanity_calls _).mono ?_
  rintro e w1 ⟨rfl, e1⟩
  have hb1 : w1.heap[W.heap.size]? = some (.cells #[.int .i64 k1, .int .i64 k2, .int .i64 k3, .int .i64 sz] 59 (0, 0)) := (e1.block _ (by simp) (fun z => z)).trans (heap_alloc_new W _)
  have E1 : Ext Nope W w1 := ext0 ((Ext.refl _ _).alloc _) e1
  have ha1 := ha.ext E1
  clear e1 ha
  go_wp2_with fail
  refine (filled_calls (n % 64) m0 m1 w1 a len cap ha1 hlen).mono ?_
  rintro e w2 ⟨bm, br, xs, rfl, hB, hxl, h7⟩
  have E2 := ext0 E1 hB.under
  have hM := hB.toMAp (w0 := W) E1.size
  have hbA : W.heap.size < w1.heap.size := lt_of_heap hb1
  have hb2 : w2.heap[W.heap.size]? = some (.cells #[.int .i64 k1, .int .i64 k2, .int .i64 k3, .int .i64 sz] 59 (0, 0)) := (hB.under.block _ hbA (fun z => z)).trans hb1
  clear hB ha1 hb1
  go_wp2_with fail
  refine (map_list hM (by omega)).mono ?_
  rintro e w3 ⟨v, rfl, hv, e3⟩
  have hM3 := hM.also e3
  have hv3 : KeysOf (Also (fun b => b < w1.heap.size) w2 w3) w3 v (keysK xs) := .of hv fun b h1 h2 => .inr ⟨h1, h2⟩
  have E3 := ext0 E2 e3
  have hb3 : w3.heap[W.heap.size]? = some (.cells #[.int .i64 k1, .int .i64 k2, .int .i64 k3, .int .i64 sz] 59 (0, 0)) := (e3.block _ (lt_of_heap hb2) (fun z => z)).trans hb2
  clear hM hv E2 e3 hb2
  go_wp2_with fail
  refine (map_used hM3).mono ?_
  rintro e wz ⟨rfl, rfl⟩
  have c0 := cell_of_blk hb3 0
  have c1 := cell_of_blk hb3 1
  have c2 := cell_of_blk hb3 2
  have c3 := cell_of_blk hb3 3
  simp only [List.getElem?_toArray, List.getElem?_cons_zero, List.getElem?_cons_succ] at c0 c1 c2 c3
  go_wp2_with fail
  clear c0 c1 c2 c3
  have S : ESt W (Also (Also (fun b => b < w1.heap.size) w2 w3) w3 (w3.alloc (.cells (ownCells ⟨7, k1, k2, k3⟩) 34 (0, 0)))) (w3.alloc (.cells (ownCells ⟨7, k1, k2, k3⟩) 34 (0, 0))) bm (n % 64) xs w3.heap.size W.heap.size ⟨7, k1, k2, k3⟩ sz v (keysK xs) :=
    ⟨hM3.also ((Ext.refl _ _).alloc _), heap_alloc_new _ _, (heap_alloc_old _ _ _ (lt_of_heap hb3)).trans hb3, (hv3.ext ((Ext.refl _ _).alloc _)).mono (fun b hb => .inl hb), E3.alloc _, .inr ⟨Nat.le_refl _, by simp⟩, .inl (.inl hbA)⟩
  clear hM3 hv3 hb3 E3 hbA E1
  generalize Also (Also (fun b => b < w1.heap.size) w2 w3) w3 (w3.alloc (.cells (ownCells ⟨7, k1, k2, k3⟩) 34 (0, 0))) = A at *
  generalize w3.alloc (.cells (ownCells ⟨7, k1, k2, k3⟩) 34 (0, 0)) = w4 at *
  generalize w3.heap.size = X at *
  have hg : getK xs ⟨7, k1, k2, k3⟩ = none := getK_seven rfl h7
  have gU : useA xs ⟨7, k1, k2, k3⟩ = (false, xs) := by unfold useA; rw [hg]
  have gP : pinA xs ⟨7, k1, k2, k3⟩ true = (5, xs) := by unfold pinA; rw [hg]
  have gD : dropA xs ⟨7, k1, k2, k3⟩ = (5, xs) := by unfold dropA; rw [hg]
  have HU : Hid (useA xs ⟨7, k1, k2, k3⟩ = (false, xs)) := gU
  have HP : Hid (pinA xs ⟨7, k1, k2, k3⟩ true = (5, xs)) := gP
  have HD : Hid (dropA xs ⟨7, k1, k2, k3⟩ = (5, xs)) := gD
  clear hg gU gP gD
  refine (map_use S.mem ⟨7, k1, k2, k3⟩).mono ?_
  rw [HU.out]
  rintro e w5 ⟨rfl, m5, e5⟩
  have S5 := S.act m5 e5
  obtain ⟨c0, c1, c2, c3, c4⟩ := S5.cells
  clear S m5 e5
  go_wp2_with fail
  refine (map_pin S5.mem ⟨7, k1, k2, k3⟩ true).mono ?_
  rw [HP.out]
  rintro e w6 ⟨rfl, m6, e6⟩
  have S6 := S5.act m6 e6
  clear S5 m6 e6 c0 c1 c2 c3 c4
  obtain ⟨c0, c1, c2, c3, c4⟩ := S6.cells
  go_wp2_with fail
  refine (map_drop S6.mem ⟨7, k1, k2, k3⟩).mono ?_
  rw [HD.out]
  rintro e w7 ⟨rfl, m7, e7⟩
  have S7 := S6.act m7 e7
  clear S6 m7 e7 c0 c1 c2 c3 c4
  obtain ⟨c0, c1, c2, c3, c4⟩ := S7.cells
  go_wp2_with fail
  clear HU HP HD h7
  have hB63 : n % 64 ≤ 63 := by omega
  have hlen8 := putA_len (n % 64) xs ⟨7, k1, k2, k3⟩ sz
  refine (map_put S7.mem (by omega) ⟨7, k1, k2, k3⟩ sz).mono ?_
  rintro e w8 ⟨u, rfl, _, m8, e8⟩
  rcases put_cases S7.mem.ok ⟨7, k1, k2, k3⟩ sz with ⟨hsz, hp⟩ | ⟨hsz, hp⟩ | ⟨hsz, hp⟩
  · rw [hp] at m8 ⊢
    have S8 := S7.act m8 e8
    clear S7 m8 e8 c0 c1 c2 c3 c4 hp hlen8
    obtain ⟨c0, c1, c2, c3, c4⟩ := S8.cells
    go_wp2_with fail
    refine (map_put S8.mem (by omega) ⟨7, k1, k2, k3⟩ 65536).mono ?_
    rintro e w9 ⟨u', rfl, _, m9, e9⟩
    rw [put_full S8.mem.ok hB63] at m9 ⊢
    have S9 := S8.act m9 e9
    clear S8 m9 e9 c0 c1 c2 c3 c4
    obtain ⟨c0, c1, c2, c3, c4⟩ := S9.cells
    rcases hsz with hsz | hsz
    · go_wp2_with fail
      refine (map_list S9.mem (by omega)).mono ?_
      rintro e w10 ⟨v2, rfl, hv2, e10⟩
      have hvv := S9.list.ext e10
      have S10 := S9.mem.ext0 e10
      have E10 := ext0 S9.under e10
      clear S9 e10 c0 c1 c2 c3 c4
      go_wp2_with fail
      refine (same_of hvv (KeysOf.of (A := fun _ => True) hv2 (fun _ _ _ => trivial)) (by simp [keysK]; omega) (by simp [keysK]; omega)).mono ?_
      rw [show decide (keysK xs = keysK xs) = true from by simp]
      rintro e w11 ⟨rfl, e11⟩
      have S11 := S10.ext0 e11
      go_wp2_with fail
      refine (map_used S11).mono ?_
      rintro e wz ⟨rfl, rfl⟩
      go_wp2
      go_ret
      exact ⟨rfl, ext0 E10 e11⟩
    · have hnn : ¬ sz < 0 := by omega
      go_wp2_with fail
      refine (map_list S9.mem (by omega)).mono ?_
      rintro e w10 ⟨v2, rfl, hv2, e10⟩
      have hvv := S9.list.ext e10
      have S10 := S9.mem.ext0 e10
      have E10 := ext0 S9.under e10
      clear S9 e10 c0 c1 c2 c3 c4
      go_wp2_with fail
      refine (same_of hvv (KeysOf.of (A := fun _ => True) hv2 (fun _ _ _ => trivial)) (by simp [keysK]; omega) (by simp [keysK]; omega)).mono ?_
      rw [show decide (keysK xs = keysK xs) = true from by simp]
      rintro e w11 ⟨rfl, e11⟩
      have S11 := S10.ext0 e11
      go_wp2_with fail
      refine (map_used S11).mono ?_
      rintro e wz ⟨rfl, rfl⟩
      go_wp2
      go_ret
      exact ⟨rfl, ext0 E10 e11⟩
  · rw [hp] at m8 ⊢
    have S8 := S7.act m8 e8
    clear S7 m8 e8 c0 c1 c2 c3 c4 hp hlen8
    obtain ⟨c0, c1, c2, c3, c4⟩ := S8.cells
    go_wp2_with fail
    refine (map_put S8.mem (by omega) ⟨7, k1, k2, k3⟩ 65536).mono ?_
    rintro e w9 ⟨u', rfl, _, m9, e9⟩
    rw [put_full S8.mem.ok hB63] at m9 ⊢
    have S9 := S8.act m9 e9
    clear S8 m9 e9 c0 c1 c2 c3 c4
    obtain ⟨c0, c1, c2, c3, c4⟩ := S9.cells
    have hn1 : ¬ sz < 0 := by omega
    have hn2 : ¬ 65536 < sz := by omega
    by_cases hsb : n % 64 < sz
    · go_wp2_with fail
      refine (map_list S9.mem (by omega)).mono ?_
      rintro e w10 ⟨v2, rfl, hv2, e10⟩
      have hvv := S9.list.ext e10
      have S10 := S9.mem.ext0 e10
      have E10 := ext0 S9.under e10
      clear S9 e10 c0 c1 c2 c3 c4
      go_wp2_with fail
      refine (same_of hvv (KeysOf.of (A := fun _ => True) hv2 (fun _ _ _ => trivial)) (by simp [keysK]; omega) (by simp [keysK]; omega)).mono ?_
      rw [show decide (keysK xs = keysK xs) = true from by simp]
      rintro e w11 ⟨rfl, e11⟩
      have S11 := S10.ext0 e11
      go_wp2_with fail
      refine (map_used S11).mono ?_
      rintro e wz ⟨rfl, rfl⟩
      go_wp2
      go_ret
      exact ⟨rfl, ext0 E10 e11⟩
    · go_wp2_with fail
      refine (map_list S9.mem (by omega)).mono ?_
      rintro e w10 ⟨v2, rfl, hv2, e10⟩
      have hvv := S9.list.ext e10
      have S10 := S9.mem.ext0 e10
      have E10 := ext0 S9.under e10
      clear S9 e10 c0 c1 c2 c3 c4
      go_wp2_with fail
      refine (same_of hvv (KeysOf.of (A := fun _ => True) hv2 (fun _ _ _ => trivial)) (by simp [keysK]; omega) (by simp [keysK]; omega)).mono ?_
      rw [show decide (keysK xs = keysK xs) = true from by simp]
      rintro e w11 ⟨rfl, e11⟩
      have S11 := S10.ext0 e11
      go_wp2_with fail
      refine (map_used S11).mono ?_
      rintro e wz ⟨rfl, rfl⟩
      go_wp2
      go_ret
      exact ⟨rfl, ext0 E10 e11⟩
  · rw [hp]
    generalize (putA (n % 64) xs ⟨7, k1, k2, k3⟩ sz).2.2 = ys at *
    have S8 := S7.act m8 e8
    clear S7 m8 e8 c0 c1 c2 c3 c4 hp
    obtain ⟨c0, c1, c2, c3, c4⟩ := S8.cells
    go_wp2_with fail
    refine (map_put S8.mem (by omega) ⟨7, k1, k2, k3⟩ 65536).mono ?_
    rintro e w9 ⟨u', rfl, _, m9, e9⟩
    rw [put_full S8.mem.ok hB63] at m9 ⊢
    have S9 := S8.act m9 e9
    clear S8 m9 e9 c0 c1 c2 c3 c4
    obtain ⟨c0, c1, c2, c3, c4⟩ := S9.cells
    obtain ⟨hn1, hn2, hn3⟩ := hsz
    have hn1' : ¬ sz < 0 := by omega
    have hn2' : ¬ 65536 < sz := by omega
    have hn3' : ¬ n % 64 < sz := by omega
    have hE := S9.under
    clear S9
    go_wp2
    go_ret
    exact ⟨rfl, hE⟩
end Go.Proofs.Ytkloaadaicklfaa
