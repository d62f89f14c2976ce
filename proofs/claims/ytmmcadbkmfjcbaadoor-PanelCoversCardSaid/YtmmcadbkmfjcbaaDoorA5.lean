/-
  The first pixels of rows, and rows and rectangles that numbers make.
-/
import Derived.Test.YtmmcadbkmfjcbaaDoorA4
import Derived.Deep.RegionHeld3
namespace Go.Proofs.YtmmcadbkmfjcbaaDoor
open Go.RowKit
attribute [local go_sem] alloc_drewN setCell_drewN

theorem withB_mod (x i : Nat) : withB (x % 2 ^ i) i (x.testBit i) = x % 2 ^ (i + 1) := by
  apply Nat.eq_of_testBit_eq
  intro j
  rw [withB_bit, Nat.testBit_mod_two_pow, Nat.testBit_mod_two_pow]
  by_cases h : j = i
  · subst h; simp
  · rw [if_neg h]
    by_cases h2 : j < i
    · simp [h2, show j < i + 1 by omega]
    · simp [h2, show ¬ j < i + 1 by omega]
theorem mod_lt64 (x i : Nat) (h : x < 18446744073709551616) : x % 2 ^ i < 18446744073709551616 := Nat.lt_of_le_of_lt (Nat.mod_le _ _) h

def firstA (xs : List Nat) (n : Nat) : List Nat := xs.map (· % 2 ^ n)
theorem firstA_length (xs : List Nat) (n : Nat) : (firstA xs n).length = xs.length := by simp [firstA]
theorem firstA_take {xs : List Nat} {k x : Nat} (n : Nat) (h : xs[k]? = some x) : firstA (xs.take (k + 1)) n = firstA (xs.take k) n ++ [x % 2 ^ n] := by
  rw [take_snoc h]; simp [firstA]

set_option maxHeartbeats 2000000 in
/-- abugidaref33.First -/
theorem first_calls {w : World} {v : Value} {xs : List Nat} (h : Reads w v xs) (hu : U64 xs) (n : Nat) (n1 : 1 ≤ n) (n2 : n ≤ 64) (hl : xs.length ≤ 100000) : Calls Tryd.prog 52 #[v, .int .i64 n] w (CopyOf w (firstA xs n)) := by
  have H := toHid h
  obtain ⟨av, cap, hv, h1, h2, h3⟩ := h
  obtain ⟨m, HN⟩ : ∃ m, Hid (xs.length = m) := ⟨_, rfl⟩
  rw [HN.out] at hv h1 hl
  subst hv
  obtain ⟨j63, hi, hz0, hz1, hz2⟩ := info_parts info63
  clear h3
  go_enter Tryd.func52, Tryd.ntmps52
  go_wp2
  go_loopw [5, 6] (fun out i wr => ∃ k : Nat, i = .int .i64 k ∧ k ≤ m ∧ RowsAt wr w.heap.size out (firstA (xs.take k) n) ∧ Ext Nope w wr) (fun _ i _ => m - (intOf i).toNat)
  case atStart => exact ⟨0, rfl, Nat.zero_le _, World.ownsRow_nil _ _ _ _, Ext.refl _ _⟩
  case round =>
    obtain ⟨k, rfl, hk1, hW, hE⟩ := hrel
    by_cases hkm : k < m
    · obtain ⟨b, off, rfl, hb, hc⟩ := (H.out.ext0 hE).at (by omega)
      obtain ⟨x, hx⟩ := some_at hkm HN.out
      have c0 := hc k x hx
      have hx64 := hu.at hx
      have TX := toHid (firstA_take n hx)
      have hlen : (firstA (xs.take k) n).length = k := by rw [firstA_length, List.length_take, HN.out]; omega
      have HLEN := toHid hlen
      clear hc hx hlen
      go_wp2
      go_loopw [7, 8] (fun y i wv => ∃ j : Nat, i = .int .i64 j ∧ j ≤ n ∧ y = u64 (x % 2 ^ j) ∧ wv = wr) (fun _ i _ => n - (intOf i).toNat)
      case atStart => exact ⟨0, rfl, Nat.zero_le _, by simp [Nat.mod_one], rfl⟩
      case round =>
        obtain ⟨j, rfl, hj, rfl, rfl⟩ := hrel
        by_cases hjn : j < n
        · have hm64 := mod_lt64 x j hx64
          have hwm := withB_mod x j
          have HWM := toHid hwm
          clear hwm
          go_wp2_with (first
            | (go_at_call 48; refine (bit_calls x j _ hx64 (by omega)).mono ?_; rintro e w' ⟨rfl, rfl⟩)
            | (go_at_call 47; refine (with_calls (x % 2 ^ j) j (x.testBit j) _ hm64 (by omega)).mono ?_; rintro e w' ⟨rfl, rfl⟩; rw [HWM.out]))
          go_roundw
          case rel => exact ⟨j + 1, by go_num, by omega, rfl, trivial⟩
          case measure => simp [intOf]; omega
        · have hjj : j = n := by omega
          subst hjj
          have hown : wr.ownsRow w.heap.size 63 1 u5 k (rowCells (firstA (xs.take k) j)) := by have h := hW; unfold RowsAt at h; rw [HLEN.out] at h; exact h
          clear hW
          go_wp2_with (first | (at_builtin; refine wpList_append_lies _ rfl (.tmp 29) (.tmp 31) 32 rfl w.heap.size 63 j63 _ 1 8 Tryd.underlying32 hi hz0 hz1 hz2 rfl (by decide) _ _ _ rfl (hown.alloc _) ⟨wr.heap.size, 0, none⟩ 1 1 (rowCells [x % 2 ^ j]) rfl rfl ?c1 ?c2 (by omega) ?c3 ?c4 ?c5 _ rfl ?_))
          case c1 => intro jj uu hjj; exact u64_at (heap_alloc_new wr _) jj uu hjj
          case c2 => exact rowCells_oneCell _
          case c3 => unfold maxLen; omega
          case c4 => omega
          case c5 => have := hE.size; simp; omega
          intro g' cap' wq hown' hgrow hloc hlt'
          have hWq : RowsAt wq w.heap.size (.slice (some ⟨g', 0, none⟩) (k + 1) cap') (firstA (xs.take (k + 1)) j) := by rw [TX.out]; exact RowsAt.snoc hown' (by rw [HLEN.out])
          have hEq : Ext Nope w wq := (hE.alloc _).grown hgrow fun b hb hlt => absurd (hown.lt b hb).1 (by omega)
          clear hown' hgrow hloc hlt' hown c0
          go_wp2_with fail
          go_roundw
          case rel => exact ⟨k + 1, by go_num, by omega, hWq, hEq⟩
          case measure => simp [intOf]; omega
    · have hkk : k = m := by omega
      subst hkk
      rw [show xs.take k = xs by rw [← HN.out, List.take_length]] at hW
      go_wp2
      go_ret
      exact ⟨_, rfl, hW, hE⟩
theorem own_set {w : World} {base E g n cap : Nat} {xs : List Value} (h : w.ownsRow base E 1 (.slice (some ⟨g, 0, none⟩) n cap) n xs) (j : Nat) (_hj : j < n) (u : Value) :
    (w.setCell ⟨g, j, none⟩ u).ownsRow base E 1 (.slice (some ⟨g, 0, none⟩) n cap) n (xs.set j u) := by
  obtain ⟨h0, ⟨hv, _⟩ | ⟨g', cap', cur, hv, hb, hg, h1, h2, h3, h4⟩⟩ := h
  · cases hv
  · cases hv
    refine ⟨by simpa using h0, .inr ⟨g, cap, cur.setIfInBounds j u, rfl, hb, heap_setCell_eq _ _ _ _ _ _ _ hg, h1, h2, by simpa using h3, ?_⟩⟩
    rw [Array.toList_setIfInBounds, ← h4, List.take_set]
theorem rowCells_set (xs : List Nat) (j x : Nat) : (rowCells xs).set j (u64 x) = rowCells (xs.set j x) := by simp [rowCells, List.map_set]
theorem RowsAt.set {w : World} {base g n cap : Nat} {xs : List Nat} (h : RowsAt w base (.slice (some ⟨g, 0, none⟩) n cap) xs) (hn : xs.length = n) (j : Nat) (hj : j < n) (x : Nat) : RowsAt (w.setCell ⟨g, j, none⟩ (u64 x)) base (.slice (some ⟨g, 0, none⟩) n cap) (xs.set j x) := by
  have h' : w.ownsRow base 63 1 (.slice (some ⟨g, 0, none⟩) n cap) n (rowCells xs) := by unfold RowsAt at h; rw [hn] at h; exact h
  have := own_set h' j hj (u64 x)
  rw [rowCells_set] at this
  show World.ownsRow _ _ _ _ _ _ _
  rw [List.length_set, hn]
  exact this
/-- A row of the call's own, its cells. -/
theorem RowsAt.cell {w : World} {base g n cap : Nat} {xs : List Nat} (h : RowsAt w base (.slice (some ⟨g, 0, none⟩) n cap) xs) {k x : Nat} (hk : xs[k]? = some x) : w.cell? ⟨g, k, none⟩ = some (u64 x) := own_cell h (rowCells_at hk)
theorem RowsAt.free {w : World} {base g n cap : Nat} {xs : List Nat} (h : RowsAt w base (.slice (some ⟨g, 0, none⟩) n cap) xs) (k : Nat) : w.frozen? ⟨g, k, none⟩ = false := by
  obtain ⟨_, ⟨hv, _⟩ | ⟨g', cap', cur, hv, hb, hg, h1, h2, h3, h4⟩⟩ := h
  · cases hv
  · cases hv
    exact free_of_blk hg k
/-- Rows of a height: what is missing is 0. -/
def padA (xs : List Nat) (h : Nat) : List Nat := xs.take h ++ List.replicate (h - xs.length) 0
theorem padA_length (xs : List Nat) (h : Nat) : (padA xs h).length = h := by simp [padA]; omega
theorem padA_u64 {xs : List Nat} (hu : U64 xs) (h : Nat) : U64 (padA xs h) := by
  unfold padA
  refine U64.append (hu.sub fun x hx => List.mem_of_mem_take hx) fun x hx => ?_
  rw [List.mem_replicate] at hx
  omega
def madeA (xs : List Nat) (n h : Nat) : List Nat := firstA (padA xs h) n
theorem made_all (W : World) (n : Nat) (hn : n ≤ 100000) : (Instr.makeSlice 32 (.int .i64 (n : Int)) (.int .i64 (n : Int))).run Tryd.prog W = .ok (.slice (some ⟨W.heap.size, 0, none⟩) n n) (W.alloc (.cells (madeCells #[.int .u64 0] n) 63)) := by
  obtain ⟨j63, hi, hz0, hz1, hz2⟩ := info_parts info63
  have := Go.run_make (P := Tryd.prog) W 32 63 j63 (.int .u64 0) Tryd.underlying32 hi hz0 .i64 .i64 (n : Int) (n : Int) (by omega) (by omega) (by rw [hz2]; omega) (by omega)
  rw [hz1, show (Value.int .u64 0).cells = #[.int .u64 0] from rfl] at this
  simpa using this
theorem made_rows (W : World) (n : Nat) (hn : n ≤ 100000) : RowsAt (W.alloc (.cells (madeCells #[.int .u64 0] n) 63)) W.heap.size (.slice (some ⟨W.heap.size, 0, none⟩) n n) (List.replicate n 0) := by
  refine ⟨by simp [rowCells], .inr ⟨W.heap.size, n, madeCells #[.int .u64 0] n, by simp, Nat.le_refl _, heap_alloc_new _ _, by simp, by unfold maxLen; omega, ?_, ?_⟩⟩
  · simp [madeCells]
  · simp only [madeCells, Array.toList_map, Array.toList_range, rowCells, List.map_replicate]
    rw [List.take_of_length_le (by simp)]
    refine List.eq_replicate_iff.2 ⟨by simp, fun y hy => ?_⟩
    obtain ⟨j, _, rfl⟩ := List.mem_map.1 hy
    simp [Nat.mod_one]

theorem pad_step {xs : List Nat} {k h m x : Nat} (hm : xs.length = m) (hk : k < h) (hkm : k < m) (hx : xs[k]? = some x) : (xs.take k ++ List.replicate (h - k) 0).set k x = xs.take (k + 1) ++ List.replicate (h - (k + 1)) 0 := by
  have hl : (xs.take k).length = k := by rw [List.length_take]; omega
  rw [List.set_append_right _ _ (by omega), hl, Nat.sub_self, take_snoc hx]
  rw [show h - k = (h - (k + 1)) + 1 by omega, List.replicate_succ, List.set_cons_zero, List.append_assoc]
  rfl
theorem pad_end {xs : List Nat} {k h m : Nat} (hm : xs.length = m) (hk : k ≤ h) (hkm : k ≤ m) (he : k = h ∨ k = m) : xs.take k ++ List.replicate (h - k) 0 = padA xs h := by
  unfold padA
  rcases he with he | he
  · subst he
    rw [Nat.sub_self, show k - xs.length = 0 by omega]
  · subst he
    rw [List.take_of_length_le (show xs.length ≤ k by omega), List.take_of_length_le (show xs.length ≤ h by omega), hm]

set_option maxHeartbeats 2000000 in
/-- abugidaref33.Made -/
theorem made_calls {w : World} {v : Value} {xs : List Nat} (hr : Reads w v xs) (hu : U64 xs) (n h : Nat) (n1 : 1 ≤ n) (n2 : n ≤ 64) (h1 : 1 ≤ h) (h2 : h ≤ 1000) (hl : xs.length ≤ 9223372036854775807) : Calls Tryd.prog 34 #[v, .int .i64 n, .int .i64 h] w (CopyOf w (madeA xs n h)) := by
  have H := toHid hr
  obtain ⟨av, cap, hv, g1, g2, _⟩ := hr
  obtain ⟨m, HN⟩ : ∃ m, Hid (xs.length = m) := ⟨_, rfl⟩
  rw [HN.out] at hv g1 hl
  subst hv
  have hmk := fun W => made_all W h (by omega)
  go_enter Tryd.func34, Tryd.ntmps34
  go_wp2
  have hR0 := toHid (made_rows w h (by omega))
  have e0 : Ext Nope w (w.alloc (.cells (madeCells #[.int .u64 0] h) 63)) := (Ext.refl _ _).alloc _
  clear hmk
  generalize w.alloc (.cells (madeCells #[.int .u64 0] h) 63) = w1 at *
  go_loopw [8] (fun i wr => ∃ k : Nat, i = .int .i64 k ∧ k ≤ h ∧ k ≤ m ∧ RowsAt wr w.heap.size (.slice (some ⟨w.heap.size, 0, none⟩) h h) (xs.take k ++ List.replicate (h - k) 0) ∧ Ext Nope w wr) (fun i _ => h - (intOf i).toNat)
  case atStart => exact ⟨0, rfl, Nat.zero_le _, Nat.zero_le _, by simpa using hR0.out, e0⟩
  case round =>
    obtain ⟨k, rfl, hk1, hk2, hW, hE⟩ := hrel
    by_cases hkk : k < h ∧ k < m
    · obtain ⟨hkh, hkm⟩ := hkk
      obtain ⟨b, off, rfl, hb, hc⟩ := H.out.at (by omega)
      obtain ⟨x, hx⟩ := some_at hkm HN.out
      have c0 := (World.cell?_of_block (w := w) (a := ⟨b, off + k, none⟩) (hE.block b hb (fun z => z))).trans (hc k x hx)
      have hlen : (xs.take k ++ List.replicate (h - k) 0).length = h := by
        rw [List.length_append, List.length_take, List.length_replicate, HN.out]; omega
      obtain ⟨y, hy⟩ := some_at hkh hlen
      have c1 := hW.cell hy
      have f1 := hW.free k
      have hset := hW.set hlen k hkh x
      rw [pad_step HN.out hkh hkm hx] at hset
      have hEs : Ext Nope w (wr.setCell ⟨w.heap.size, k, none⟩ (u64 x)) := hE.setCell _ _ (fun z => absurd z (Nat.lt_irrefl _)) _
      have HSET := toHid hset
      clear hset hy hx hc hlen hW
      go_wp2
      go_roundw
      case rel => exact ⟨k + 1, by go_num, by omega, by omega, HSET.out, hEs⟩
      case measure => simp [intOf]; omega
    · have hend := pad_end HN.out hk1 hk2 (by omega)
      rw [hend] at hW
      have hF := first_calls hW.reads (padA_u64 hu h) n n1 n2 (by rw [padA_length]; omega)
      have HF := toHid hF
      have hend' : (k < h) = true → ¬ k < m := fun z1 z2 => hkk ⟨by simpa using z1, z2⟩
      clear hend hF hW
      by_cases hkh : k < h
      · have hkm : ¬ k < m := fun z => hkk ⟨hkh, z⟩
        clear hkk hend'
        go_wp2_with fail
        refine HF.out.mono ?_
        rintro e w' ⟨u, rfl, hu', e'⟩
        clear HF
        go_wp2
        go_ret
        exact ⟨_, rfl, hu'.mono hE.size, ext0 hE e'⟩
      · clear hkk hend'
        go_wp2_with fail
        refine HF.out.mono ?_
        rintro e w' ⟨u, rfl, hu', e'⟩
        clear HF
        go_wp2
        go_ret
        exact ⟨_, rfl, hu'.mono hE.size, ext0 hE e'⟩

/-- A rectangle that numbers make. -/
def madeR (q0 q1 q2 q3 w h : Int) : R := ⟨q0 % w, q1 % h, 1 + q2 % (w - q0 % w), 1 + q3 % (h - q1 % h)⟩
theorem madeR_in {q0 q1 q2 q3 w h : Int} (hw : 1 ≤ w) (hh : 1 ≤ h) : inB (madeR q0 q1 q2 q3 w h) w h = true := by
  have a1 := Int.emod_nonneg q0 (show w ≠ 0 by omega)
  have a2 := Int.emod_lt_of_pos q0 (show 0 < w by omega)
  have b1 := Int.emod_nonneg q1 (show h ≠ 0 by omega)
  have b2 := Int.emod_lt_of_pos q1 (show 0 < h by omega)
  have c1 := Int.emod_nonneg q2 (show w - q0 % w ≠ 0 by omega)
  have c2 := Int.emod_lt_of_pos q2 (show 0 < w - q0 % w by omega)
  have d1 := Int.emod_nonneg q3 (show h - q1 % h ≠ 0 by omega)
  have d2 := Int.emod_lt_of_pos q3 (show 0 < h - q1 % h by omega)
  refine inB_true ?_
  show 0 ≤ q0 % w ∧ 0 ≤ q1 % h ∧ 1 ≤ 1 + q2 % (w - q0 % w) ∧ 1 ≤ 1 + q3 % (h - q1 % h) ∧ q0 % w + (1 + q2 % (w - q0 % w)) ≤ w ∧ q1 % h + (1 + q3 % (h - q1 % h)) ≤ h
  omega
set_option maxHeartbeats 2000000 in
/-- abugidaref33.MadeRect -/
theorem mader_calls (q0 q1 q2 q3 ww h : Int) (w : World) (a0 : 0 ≤ q0 ∧ q0 ≤ 255) (a1 : 0 ≤ q1 ∧ q1 ≤ 255) (a2 : 0 ≤ q2 ∧ q2 ≤ 255) (a3 : 0 ≤ q3 ∧ q3 ≤ 255) (w1 : 1 ≤ ww) (w2 : ww ≤ 1000) (h1 : 1 ≤ h) (h2 : h ≤ 1000) :
    Calls Tryd.prog 24 #[.agg #[.int .u8 q0, .int .u8 q1, .int .u8 q2, .int .u8 q3], .int .i64 ww, .int .i64 h] w fun e w' => e = .returned (madeR q0 q1 q2 q3 ww h).val ∧ Ext Nope w w' := by
  have d1 := Int.emod_nonneg q0 (show ww ≠ 0 by omega)
  have d2 := Int.emod_lt_of_pos q0 (show 0 < ww by omega)
  have d3 := Int.emod_nonneg q1 (show h ≠ 0 by omega)
  have d4 := Int.emod_lt_of_pos q1 (show 0 < h by omega)
  have p0 : IntKind.i64.wrap q0 = q0 := IntWalk.i64_in _ (by omega)
  have p1 : IntKind.i64.wrap q1 = q1 := IntWalk.i64_in _ (by omega)
  have t0 : q0.tmod ww = q0 % ww := Int.tmod_eq_emod_of_nonneg a0.1
  have t1 : q1.tmod h = q1 % h := Int.tmod_eq_emod_of_nonneg a1.1
  have n0 : ¬ ww = 0 := by omega
  have n1 : ¬ h = 0 := by omega
  have nb0 : (ww == 0) = false := by simp; omega
  have nb1 : (h == 0) = false := by simp; omega
  obtain ⟨z0, hz0⟩ : ∃ z, q0 % ww = z := ⟨_, rfl⟩
  obtain ⟨z1, hz1⟩ : ∃ z, q1 % h = z := ⟨_, rfl⟩
  rw [hz0] at d1 d2 t0
  rw [hz1] at d3 d4 t1
  have HZ0 := toHid hz0
  have HZ1 := toHid hz1
  obtain ⟨e2, he2⟩ : ∃ z, 1 + q2 % (ww - z0) = z := ⟨_, rfl⟩
  obtain ⟨e3, he3⟩ : ∃ z, 1 + q3 % (h - z1) = z := ⟨_, rfl⟩
  have m1 := Int.emod_nonneg q2 (show ww - z0 ≠ 0 by omega)
  have m2 := Int.emod_lt_of_pos q2 (show 0 < ww - z0 by omega)
  have m3 := Int.emod_nonneg q3 (show h - z1 ≠ 0 by omega)
  have m4 := Int.emod_lt_of_pos q3 (show 0 < h - z1 by omega)
  have n2 : ¬ ww - z0 = 0 := by omega
  have n3 : ¬ h - z1 = 0 := by omega
  have HE2 := toHid he2
  have HE3 := toHid he3
  have hmade : madeR q0 q1 q2 q3 ww h = ⟨z0, z1, e2, e3⟩ := by unfold madeR; rw [hz0, hz1, he2, he3]
  have HMADE := toHid hmade
  clear hz0 hz1 he2 he3 hmade
  go_enter Tryd.func24, Tryd.ntmps24
  go_wp2
  have KB : ((w.alloc (.cells #[.int .u8 q0, .int .u8 q1, .int .u8 q2, .int .u8 q3] 29)).alloc (.cells #[.int .i64 0, .int .i64 0, .int .i64 0, .int .i64 0] 31)).heap[w.heap.size]? = some (.cells #[.int .u8 q0, .int .u8 q1, .int .u8 q2, .int .u8 q3] 29 (0, 0)) := (heap_alloc_old _ _ _ (by simp)).trans (heap_alloc_new _ _)
  have KC : ((w.alloc (.cells #[.int .u8 q0, .int .u8 q1, .int .u8 q2, .int .u8 q3] 29)).alloc (.cells #[.int .i64 0, .int .i64 0, .int .i64 0, .int .i64 0] 31)).heap[w.heap.size + 1]? = some (.cells (rCells ⟨0, 0, 0, 0⟩) 31 (0, 0)) := heap_alloc_at _ _ _ (by simp)
  have E2 : Ext Nope w ((w.alloc (.cells #[.int .u8 q0, .int .u8 q1, .int .u8 q2, .int .u8 q3] 29)).alloc (.cells #[.int .i64 0, .int .i64 0, .int .i64 0, .int .i64 0] 31)) := ((Ext.refl _ _).alloc _).alloc _
  have hsz : w.heap.size + 1 < ((w.alloc (.cells #[.int .u8 q0, .int .u8 q1, .int .u8 q2, .int .u8 q3] 29)).alloc (.cells #[.int .i64 0, .int .i64 0, .int .i64 0, .int .i64 0] 31)).heap.size := by simp
  generalize (w.alloc (.cells #[.int .u8 q0, .int .u8 q1, .int .u8 q2, .int .u8 q3] 29)).alloc (.cells #[.int .i64 0, .int .i64 0, .int .i64 0, .int .i64 0] 31) = w2 at *
  have b0 := cell_of_blk KB 0
  have b1 := cell_of_blk KB 1
  have b2 := cell_of_blk KB 2
  have b3 := cell_of_blk KB 3
  simp only [List.getElem?_toArray, List.getElem?_cons_zero, List.getElem?_cons_succ] at b0 b1 b2 b3
  have hbl : w.heap.size < w2.heap.size := by omega
  go_region_held3 (fun w' => w'.cell? ⟨w.heap.size, 0, none⟩ = some (.int .u8 q0) ∧ w'.cell? ⟨w.heap.size, 1, none⟩ = some (.int .u8 q1)) (go_keep) (first | fail)
  all_goals
    have c0 := cell_of_blk KC 0
    have c1 := cell_of_blk KC 1
    have c2 := cell_of_blk KC 2
    have c3 := cell_of_blk KC 3
    simp only [List.getElem?_toArray, List.getElem?_cons_zero, List.getElem?_cons_succ] at c0 c1 c2 c3
    have f0 := free_of_blk KC 0
    have f1 := free_of_blk KC 1
    have f2 := free_of_blk KC 2
    have f3 := free_of_blk KC 3
    clear p0 p1 t0 t1 KB
    go_wp2
    refine bodyPost_ret (v := R.val ⟨z0, z1, 1 + q2 % (ww - z0), 1 + q3 % (h - z1)⟩) ?_ rfl ⟨?_, ?_⟩
    · have k4 := heap_setCell_eq _ _ 3 (.int .i64 (1 + q3 % (h - z1))) _ _ _ (heap_setCell_eq _ _ 2 (.int .i64 (1 + q2 % (ww - z0))) _ _ _ (heap_setCell_eq _ _ 1 (.int .i64 z1) _ _ _ (heap_setCell_eq _ _ 0 (.int .i64 z0) _ _ _ KC)))
      have k5 := (heap_alloc_old _ (.cells (rCells ⟨z0, z1, 1 + q2 % (ww - z0), 1 + q3 % (h - z1)⟩) 31) _ (lt_of_heap k4)).trans k4
      obtain ⟨r0, r1, r2, r3⟩ := r_cells (o := ⟨z0, z1, 1 + q2 % (ww - z0), 1 + q3 % (h - z1)⟩) k5
      clear k4 k5 c0 c1 c2 c3 f0 f1 f2 f3 KC
      simp [results, Tryd.results24, go_sem, r0, r1, r2, r3]
    · rw [HMADE.out, HE2.out, HE3.out]
    · refine ((((((E2.setCell _ _ ?_ _).setCell _ _ ?_ _).setCell _ _ ?_ _).setCell _ _ ?_ _).alloc _).drew)
      all_goals (intro z; omega)

end Go.Proofs.YtmmcadbkmfjcbaaDoor
