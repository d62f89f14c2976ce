/-
  Cut of the reference.
-/
import Derived.Test.YtmmcadbkmfjcbaaDoorA6
import Derived.StillTailTactics
namespace Go.Proofs.YtmmcadbkmfjcbaaDoor
open Go.RowKit
attribute [local go_sem] alloc_drewN setCell_drewN

theorem bit_at (x X j : Nat) : x.testBit (X + j) = (x / 2 ^ X).testBit j := by rw [Nat.testBit_div_two_pow, Nat.add_comm]
theorem quiet_bit (x i : Nat) (w : World) (h1 : x < 18446744073709551616) (h2 : i < 64) : Calls Tryd.prog 48 #[u64 x, .int .i64 i] w fun e w' => e = .returned (.bool (x.testBit i)) ∧ w' = w := (bit_calls x i w h1 h2).mono fun _ _ h => ⟨h.1, h.2.symm⟩
theorem quiet_with (x i : Nat) (b : Bool) (w : World) (h1 : x < 18446744073709551616) (h2 : i < 64) : Calls Tryd.prog 47 #[u64 x, .int .i64 i, .bool b] w fun e w' => e = .returned (u64 (withB x i b)) ∧ w' = w := (with_calls x i b w h1 h2).mono fun _ _ h => ⟨h.1, h.2.symm⟩

/-- Rows, one of them in work. -/
def midA (D : List Nat) (H k y : Nat) : List Nat := D.take k ++ y :: List.replicate (H - (k + 1)) 0
theorem midA_length {D : List Nat} {H k y : Nat} (h : D.length = H) (hk : k < H) : (midA D H k y).length = H := by
  simp [midA]; omega
theorem midA_at {D : List Nat} {H k y : Nat} (h : D.length = H) (hk : k < H) : (midA D H k y)[k]? = some y := by
  unfold midA
  rw [List.getElem?_append_right (by rw [List.length_take]; omega), List.length_take, show k - min k D.length = 0 by omega]
  rfl
theorem midA_set {D : List Nat} {H k y z : Nat} (h : D.length = H) (hk : k < H) : (midA D H k y).set k z = midA D H k z := by
  unfold midA
  rw [List.set_append_right _ _ (by rw [List.length_take]; omega), List.length_take, show k - min k D.length = 0 by omega, List.set_cons_zero]
theorem midA_start {D : List Nat} {H k : Nat} (hk : k < H) : D.take k ++ List.replicate (H - k) 0 = midA D H k 0 := by
  unfold midA
  rw [show H - k = (H - (k + 1)) + 1 by omega, List.replicate_succ]
theorem midA_end {D : List Nat} {H k y : Nat} (hy : D[k]? = some y) : midA D H k y = D.take (k + 1) ++ List.replicate (H - (k + 1)) 0 := by
  unfold midA
  rw [take_snoc hy]; simp

set_option maxRecDepth 100000 in
set_option maxHeartbeats 4000000 in
theorem rcut_in {w : World} {v : Value} {xs : List Nat} (hr : Reads w v xs) (hu : U64 xs) (X Y W H : Nat) (hW : 1 ≤ W) (hH : 1 ≤ H) (hx : X + W ≤ 64) (hy : Y + H ≤ xs.length) (hl : xs.length ≤ 100000) :
    Calls Tryd.prog 26 #[v, R.val ⟨X, Y, W, H⟩] w (CopyOf w (cutA xs X Y W H)) := by
  have HR := toHid hr
  obtain ⟨av, cap, hv, g1, g2, _⟩ := hr
  obtain ⟨m, HN⟩ : ∃ m, Hid (xs.length = m) := ⟨_, rfl⟩
  rw [HN.out] at hv g1 hl hy
  subst hv
  obtain ⟨b, off, rfl, hb, _⟩ := HR.out.at (by omega)
  have hin : inB ⟨X, Y, W, H⟩ 64 (m : Int) = true := inB_true (by simp only; omega)
  have HC := toHid (fun (W' : World) => Within_calls ⟨X, Y, W, H⟩ 64 m W' (by unfold R.i64; simp only; omega) (by omega) (by omega) (by omega) (by omega))
  rw [hin] at HC
  have hD : (cutA xs X Y W H).length = H := cutA_length (by rw [HN.out]; exact hy)
  have HD := toHid hD
  clear hin hD
  go_enter Tryd.func26, Tryd.ntmps26
  go_wp2_with fail
  refine (HC.out _).mono ?_
  rintro e w1 ⟨rfl, e1⟩
  have hR1 := (HR.out.ext0 ((Ext.refl _ _).alloc _)).ext0 e1
  have KB := (e1.block w.heap.size (by simp) (fun z => z)).trans (heap_alloc_new w _)
  have E1 : Ext Nope w w1 := ext0 ((Ext.refl _ _).alloc _) e1
  obtain ⟨x0, x1, x2, x3⟩ := r_cells (o := ⟨X, Y, W, H⟩) KB
  have hmk := fun W' => made_all W' H (by omega)
  clear HC e1
  go_wp2
  have hR0 := toHid (made_rows w1 H (by omega))
  have e2 : Ext Nope w1 (w1.alloc (.cells (madeCells #[.int .u64 0] H) 63)) := (Ext.refl _ _).alloc _
  have hbx : w.heap.size < w1.heap.size := lt_of_heap KB
  have KB2 := toHid ((e2.block _ hbx (fun z => z)).trans KB)
  have hR2 := hR1.ext0 e2
  have E2 := ext0 E1 e2
  clear hmk x0 x1 x2 x3 KB hR1 e2
  generalize hg : w1.heap.size = g at *
  generalize w1.alloc (.cells (madeCells #[.int .u64 0] H) 63) = w2 at *
  have hgw : w.heap.size ≤ g := by omega
  clear hg
  go_loopw [7] (fun i wr => ∃ k : Nat, i = .int .i64 k ∧ k ≤ H ∧ RowsAt wr g (.slice (some ⟨g, 0, none⟩) H H) ((cutA xs X Y W H).take k ++ List.replicate (H - k) 0) ∧ Ext (fun b => b = g) w2 wr) (fun i _ => H - (intOf i).toNat)
  case atStart => exact ⟨0, rfl, Nat.zero_le _, by simpa using hR0.out, Ext.refl _ _⟩
  case round =>
    obtain ⟨k, rfl, hk, hO, hE⟩ := hrel
    have KB3 := (hE.block w.heap.size (lt_of_heap KB2.out) (by omega)).trans KB2.out
    obtain ⟨x0, x1, x2, x3⟩ := r_cells (o := ⟨X, Y, W, H⟩) KB3
    by_cases hkh : k < H
    · obtain ⟨hb2, hc⟩ := hR2.sub Y H hy (by omega)
      obtain ⟨x, hxx⟩ := some_at (k := Y + k) (by omega) HN.out
      have c2 := hc k x hkh hxx
      have hx64 := hu.at hxx
      have hdk : (cutA xs X Y W H)[k]? = some (cutX X W x) := by unfold cutA; rw [List.getElem?_map, sub_at hkh hxx]; rfl
      have HDK := toHid hdk
      rw [midA_start hkh] at hO
      clear hc hxx hdk KB3
      go_wp2
      clear x0 x1 x2 x3
      go_loopw [8] (fun i wv => ∃ j : Nat, i = .int .i64 j ∧ j ≤ W ∧ RowsAt wv g (.slice (some ⟨g, 0, none⟩) H H) (midA (cutA xs X Y W H) H k (x / 2 ^ X % 2 ^ j)) ∧ Ext (fun b => b = g) w2 wv) (fun i _ => W - (intOf i).toNat)
      case atStart => exact ⟨0, rfl, Nat.zero_le _, by simpa [Nat.mod_one] using hO, hE⟩
      case round =>
        obtain ⟨j, rfl, hj, hO2, hE2⟩ := hrel
        have KB3 := (hE2.block w.heap.size (lt_of_heap KB2.out) (by omega)).trans KB2.out
        obtain ⟨x0, x1, x2, x3⟩ := r_cells (o := ⟨X, Y, W, H⟩) KB3
        by_cases hjW : j < W
        · have c0 := (World.cell?_of_block (w := w2) (a := ⟨b, off + Y + k, none⟩) (hE2.block b hb2 (by omega))).trans c2
          rw [show off + Y + k = off + (Y + k) by omega] at c0
          have hmid := midA_at (y := x / 2 ^ X % 2 ^ j) HD.out hkh
          have c1 := hO2.cell hmid
          have f1 := hO2.free k
          have hy64 : x / 2 ^ X % 2 ^ j < 18446744073709551616 := mod_lt64 _ _ (Nat.lt_of_le_of_lt (Nat.div_le_self _ _) hx64)
          have hset := hO2.set (midA_length HD.out hkh) k hkh (x / 2 ^ X % 2 ^ (j + 1))
          rw [midA_set HD.out hkh] at hset
          have hEs : Ext (fun b => b = g) w2 (wr.setCell ⟨g, k, none⟩ (u64 (x / 2 ^ X % 2 ^ (j + 1)))) := hE2.setCell _ _ (fun _ => rfl) _
          have hq1 := fun W' => quiet_bit x (X + j) W' hx64 (by omega)
          rw [bit_at, Int.natCast_add] at hq1
          have hq2 := fun W' => quiet_with (x / 2 ^ X % 2 ^ j) j ((x / 2 ^ X).testBit j) W' hy64 (by omega)
          rw [withB_mod] at hq2
          have HSET := toHid hset
          have HQ1 := toHid hq1
          have HQ2 := toHid hq2
          obtain ⟨y, hyv⟩ : ∃ y, x / 2 ^ X % 2 ^ j = y := ⟨_, rfl⟩
          obtain ⟨z, hzv⟩ : ∃ z, x / 2 ^ X % 2 ^ (j + 1) = z := ⟨_, rfl⟩
          rw [hyv] at c1 HQ2
          rw [hzv] at HSET HQ2 hEs
          have HZ := toHid hzv
          clear hmid hset hq1 hq2 hO2 hE2 hyv hzv hO hy64 KB3 c2
          go_wp2_with fail
          have s1 : IntKind.i64.wrap ((Y : Int) + (k : Int)) = (Y : Int) + (k : Int) := IntWalk.i64_in _ (by omega)
          have s2 : IntKind.i64.wrap ((X : Int) + (j : Int)) = (X : Int) + (j : Int) := IntWalk.i64_in _ (by omega)
          have s3 : (0 : Int) ≤ (Y : Int) + (k : Int) := by omega
          have s4 : (Y : Int) + (k : Int) < (m : Int) := by omega
          have s5 : ((Y : Int) + (k : Int)).toNat = Y + k := by omega
          go_still_tail 20, (by kernel_rfl)
          still_call (HQ1.out _)
          still_call (HQ2.out _)
          refine wpStill_nil ?_
          change wpList _ _ _ _ _ wr.drew
          have c1' : wr.drew.cell? ⟨g, k, none⟩ = some (u64 y) := c1
          have f1' : wr.drew.frozen? ⟨g, k, none⟩ = false := f1
          clear c0 c1 f1 x0 x1 x2 x3 s1 s2 s3 s4 s5 HQ1 HQ2
          go_wp2
          go_roundw
          case rel => exact ⟨j + 1, by go_num, by omega, by rw [HZ.out]; exact own_ext HSET.out (Ext.refl Nope _).drew (fun _ _ z => z), hEs.drew⟩
          case measure => simp [intOf]; omega
        · have hjj : j = W := by omega
          subst hjj
          rw [show x / 2 ^ X % 2 ^ j = cutX X j x from rfl, midA_end HDK.out] at hO2
          clear hO
          go_wp2
          go_roundw
          case rel => exact ⟨k + 1, by go_num, by omega, hO2, hE2⟩
          case measure => simp [intOf]; omega
    · have hkk : k = H := by omega
      subst hkk
      rw [List.take_of_length_le (by rw [HD.out]; exact Nat.le_refl _), Nat.sub_self, List.replicate_zero, List.append_nil] at hO
      go_wp2
      go_ret
      exact ⟨_, rfl, hO.mono hgw, E2.trans hE (fun i hi he => by omega)⟩

theorem rcut_out {w : World} {v : Value} {xs : List Nat} (hr : Reads w v xs) (c : R) (hc : c.i64) (hin : inB c 64 (xs.length : Int) = false) (hl : xs.length ≤ 100000) : Calls Tryd.prog 26 #[v, c.val] w (CopyOf w []) := by
  obtain ⟨av, cap, rfl, g1, g2, _⟩ := hr
  have HC := toHid (fun (W' : World) => Within_calls c 64 xs.length W' hc (by omega) (by omega) (by omega) (by omega))
  rw [hin] at HC
  clear hin
  go_enter Tryd.func26, Tryd.ntmps26
  go_wp2_with fail
  refine (HC.out _).mono ?_
  rintro e w1 ⟨rfl, e1⟩
  clear HC
  go_wp2
  go_ret
  exact ⟨_, rfl, World.ownsRow_nil _ _ _ _, ext0 ((Ext.refl _ _).alloc _) e1⟩
/-- abugidaref33.Cut -/
theorem rcut_calls {w : World} {v : Value} {xs : List Nat} (hr : Reads w v xs) (hu : U64 xs) (c : R) (hc : c.i64) (hl : xs.length ≤ 100000) : Calls Tryd.prog 26 #[v, c.val] w (CopyOf w (cutR xs c)) := by
  unfold cutR
  cases hin : inB c 64 (xs.length : Int) with
  | false => exact rcut_out hr c hc hin hl
  | true =>
    obtain ⟨X, Y, W, H, rfl, h1, h2, h3, h4⟩ := inB_nat hin
    exact rcut_in hr hu X Y W H h1 h2 (by omega) (by omega) hl

end Go.Proofs.YtmmcadbkmfjcbaaDoor
