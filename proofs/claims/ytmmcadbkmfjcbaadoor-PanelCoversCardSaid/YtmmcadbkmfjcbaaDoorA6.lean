/-
  Cut, of the program and of the reference.
-/
import Derived.Test.YtmmcadbkmfjcbaaDoorA5
import Derived.Deep.DeepCutAuto
namespace Go.Proofs.YtmmcadbkmfjcbaaDoor
open Go.RowKit
attribute [local go_sem] alloc_drewN setCell_drewN

/-- A row of a rectangle. -/
def cutX (X W x : Nat) : Nat := x / 2 ^ X % 2 ^ W
def cutA (xs : List Nat) (X Y W H : Nat) : List Nat := ((xs.drop Y).take H).map (cutX X W)
theorem cutA_length {xs : List Nat} {X Y W H : Nat} (h : Y + H ≤ xs.length) : (cutA xs X Y W H).length = H := by
  simp [cutA]; omega
theorem sub_at {xs : List Nat} {Y H k x : Nat} (hk : k < H) (hx : xs[Y + k]? = some x) : ((xs.drop Y).take H)[k]? = some x := by
  rw [List.getElem?_take, if_pos hk, List.getElem?_drop]; exact hx
theorem cutA_take {xs : List Nat} {X Y W H k x : Nat} (hk : k < H) (hx : xs[Y + k]? = some x) : (cutA xs X Y W H).take (k + 1) = (cutA xs X Y W H).take k ++ [cutX X W x] := by
  unfold cutA
  have h := sub_at (H := H) hk hx
  rw [← List.map_take, ← List.map_take, take_snoc h]
  simp
/-- A whole rectangle that is within. -/
theorem inB_nat {c : R} {w h : Int} (e : inB c w h = true) : ∃ X Y W H : Nat, c = ⟨X, Y, W, H⟩ ∧ 1 ≤ W ∧ 1 ≤ H ∧ (X : Int) + W ≤ w ∧ (Y : Int) + H ≤ h := by
  obtain ⟨x, y, ww, hh⟩ := c
  have := of_decide_eq_true e
  simp only at this
  exact ⟨x.toNat, y.toNat, ww.toNat, hh.toNat, by simp; omega, by omega, by omega, by omega, by omega⟩
/-- What Cut hands back. -/
def cutR (xs : List Nat) (c : R) : List Nat := if inB c 64 xs.length then cutA xs c.x.toNat c.y.toNat c.w.toNat c.h.toNat else []
theorem cut_and (x X W : Nat) (h : x < 18446744073709551616) (hW : 1 ≤ W ∧ W ≤ 64) : bits .and .u64 ((x : Int) / 2 ^ X) ((2 ^ W - 1 : Nat) : Int) = ((cutX X W x : Nat) : Int) := by
  have h1 : x / 2 ^ X < 18446744073709551616 := Nat.lt_of_le_of_lt (Nat.div_le_self _ _) h
  have h2 : 2 ^ W - 1 < 18446744073709551616 := by
    rw [← maskN W hW.1 hW.2]
    exact Nat.lt_of_le_of_lt (Nat.div_le_self _ _) (by omega)
  rw [shr_cast, bits_and_u64_nat _ _ h1 h2, Nat.and_two_pow_sub_one_eq_mod]
  rfl
theorem Reads.sub {w : World} {b off n cap : Nat} {xs : List Nat} (h : Reads w (.slice (some ⟨b, off, none⟩) n cap) xs) (Y H : Nat) (hY : Y + H ≤ n) (h0 : 0 < H) : b < w.heap.size ∧ ∀ (k x : Nat), k < H → xs[Y + k]? = some x → w.cell? ⟨b, off + Y + k, none⟩ = some (u64 x) := by
  obtain ⟨b', off', hv, hb, hc⟩ := h.at (by omega)
  injection hv with e
  injection e with e1 e2 e3
  subst e1 e2
  exact ⟨hb, fun k x _ hx => by rw [show off + Y + k = off + (Y + k) by omega]; exact hc _ _ hx⟩

set_option maxHeartbeats 2000000 in
/-- panel.Cut, within. -/
theorem cut_in {w : World} {v : Value} {xs : List Nat} (hr : Reads w v xs) (hu : U64 xs) (X Y W H : Nat) (hW : 1 ≤ W) (hH : 1 ≤ H) (hx : X + W ≤ 64) (hy : Y + H ≤ xs.length) (hl : xs.length ≤ 100000) :
    Calls Tryd.prog 25 #[v, R.val ⟨X, Y, W, H⟩] w (CopyOf w (cutA xs X Y W H)) := by
  have HR := toHid hr
  obtain ⟨av, cap, hv, g1, g2, _⟩ := hr
  obtain ⟨m, HN⟩ : ∃ m, Hid (xs.length = m) := ⟨_, rfl⟩
  rw [HN.out] at hv g1 hl hy
  subst hv
  obtain ⟨b, off, rfl, hb, _⟩ := HR.out.at (by omega)
  have hin : inB ⟨X, Y, W, H⟩ 64 (m : Int) = true := inB_true (by simp only; omega)
  have HC := toHid (fun (W' : World) => within_calls ⟨X, Y, W, H⟩ 64 m W' (by unfold R.i64; simp only; omega) (by omega) (by omega) (by omega) (by omega))
  rw [hin] at HC
  obtain ⟨j63, hi, hz0, hz1, hz2⟩ := info_parts info63
  clear hin
  go_enter Tryd.func25, Tryd.ntmps25
  go_wp2_with fail
  refine (HC.out _).mono ?_
  rintro e w1 ⟨rfl, e1⟩
  have hR1 := (HR.out.ext0 ((Ext.refl _ _).alloc _)).ext0 e1
  have KB := (e1.block w.heap.size (by simp) (fun z => z)).trans (heap_alloc_new w _)
  have E1 : Ext Nope w w1 := ext0 ((Ext.refl _ _).alloc _) e1
  obtain ⟨x0, x1, x2, x3⟩ := r_cells (o := ⟨X, Y, W, H⟩) KB
  clear HC e1
  go_wp2
  rw [show Y + H - Y = H by omega]
  have KB' := toHid KB
  have hbx : w.heap.size < w1.heap.size := lt_of_heap KB
  obtain ⟨M, HM⟩ : ∃ M, Hid (2 ^ W - 1 = M) := ⟨2 ^ W - 1, toHid rfl⟩
  have hmask := fun (W' : World) => mask_calls W W' hW (by omega)
  rw [HM.out] at hmask
  have HMASK := toHid hmask
  clear x0 x1 x2 x3 KB hmask
  go_loopw [5, 23] (fun out i wr => ∃ k : Nat, i = .int .i64 k ∧ k ≤ H ∧ RowsAt wr w1.heap.size out ((cutA xs X Y W H).take k) ∧ Ext Nope w1 wr) (fun _ i _ => H - (intOf i).toNat)
  case atStart => exact ⟨0, rfl, Nat.zero_le _, World.ownsRow_nil _ _ _ _, Ext.refl _ _⟩
  case round =>
    obtain ⟨k, rfl, hk, hO, hE⟩ := hrel
    by_cases hkh : k < H
    · obtain ⟨hb2, hc⟩ := (hR1.ext0 hE).sub Y H hy (by omega)
      obtain ⟨x, hxx⟩ := some_at (k := Y + k) (by omega) HN.out
      have c0 := hc k x hkh hxx
      have hx64 := hu.at hxx
      have TX := toHid (cutA_take (X := X) (W := W) hkh hxx)
      have hval := cut_and x X W hx64 ⟨hW, by omega⟩
      rw [HM.out] at hval
      have hlen : ((cutA xs X Y W H).take k).length = k := by rw [List.length_take, cutA_length (by rw [HN.out]; exact hy)]; omega
      have HLEN := toHid hlen
      have hown : wr.ownsRow w1.heap.size 63 1 u5 k (rowCells ((cutA xs X Y W H).take k)) := by have h := hO; unfold RowsAt at h; rw [hlen] at h; exact h
      obtain ⟨x0, x1, x2, x3⟩ := r_cells (o := ⟨X, Y, W, H⟩) ((hE.block w.heap.size hbx (fun z => z)).trans KB'.out)
      have hbw : w.heap.size < wr.heap.size := World.block_lt_of_cell? _ _ x0
      have HEE := toHid hE
      obtain ⟨y, hy'⟩ : ∃ y, cutX X W x = y := ⟨_, rfl⟩
      rw [hy'] at hval
      have HY := toHid hy'
      clear hc hxx hlen hO hy' hE hb2
      have SK : Hid (∀ w', Ext Nope w1 w' → w'.cell? ⟨w.heap.size, 0, none⟩ = some (.int .i64 (X : Int)) ∧ w'.cell? ⟨w.heap.size, 2, none⟩ = some (.int .i64 (W : Int))) := fun w' e => by
        obtain ⟨z0, z1, z2, z3⟩ := r_cells (o := ⟨X, Y, W, H⟩) ((e.block w.heap.size hbx (fun z => z)).trans KB'.out)
        exact ⟨z0, z2⟩
      go_upto_region 7 with fail
      go_region_held3 (fun w' => w'.cell? ⟨w.heap.size, 0, none⟩ = some (.int .i64 (X : Int)) ∧ w'.cell? ⟨w.heap.size, 2, none⟩ = some (.int .i64 (W : Int)))
        ((refine SK.out _ ?_; (repeat (first | exact hEq | exact HEE.out | refine Ext.drew ?_ | refine Ext.alloc ?_ _))))
        (first
          | (go_at_call 46; refine (HMASK.out _).mono ?_; rintro e w' ⟨rfl, rfl⟩)
          | (rw [if_pos (by rfl)]; refine wp_append_lies _ (.tmp 27) (.tmp 36) 32 rfl w1.heap.size 63 j63 _ 1 8 Tryd.underlying32 hi hz0 hz1 hz2 rfl (by decide) _ _ _ rfl (hown.alloc _) ⟨wr.heap.size, 0, none⟩ 1 1 (rowCells [y]) rfl rfl (u64_at (heap_alloc_new wr _)) (rowCells_oneCell _) (by omega) (by unfold maxLen; omega) (by omega) (by have := HEE.out.size; simp; omega) _ rfl ?_; intro g' cap' wq hown' hgrow hloc hlt'; have hg : (wr.alloc (.cells #[u64 y] 63)).drew.grownBy wq u5.ownBlock := hgrow; clear hgrow; have hEq : Ext Nope w1 wq := ?_; rotate_left; (focus (exact ((HEE.out.alloc _).drew).grown hg (fun b hb hlt => absurd (hown.lt b hb).1 (by omega)))))) 
      all_goals
        have hWq : RowsAt wq w1.heap.size (.slice (some ⟨g', 0, none⟩) (k + 1) cap') ((cutA xs X Y W H).take (k + 1)) := by rw [TX.out, HY.out]; exact RowsAt.snoc hown' (by rw [HLEN.out])
        clear hown' hg hloc hlt' hown c0 x0 x1 x2 x3
        go_wp2
        go_roundw
        case rel => exact ⟨k + 1, by go_num, by omega, hWq, hEq⟩
        case measure => simp [intOf]; omega
    · have hkk : k = H := by omega
      subst hkk
      rw [List.take_of_length_le (by rw [cutA_length (by rw [HN.out]; exact hy)]; exact Nat.le_refl _)] at hO
      go_wp2
      go_ret
      exact ⟨_, rfl, hO.mono E1.size, ext0 E1 hE⟩
theorem cut_out {w : World} {v : Value} {xs : List Nat} (hr : Reads w v xs) (c : R) (hc : c.i64) (hin : inB c 64 (xs.length : Int) = false) (hl : xs.length ≤ 100000) : Calls Tryd.prog 25 #[v, c.val] w (CopyOf w []) := by
  obtain ⟨av, cap, rfl, g1, g2, _⟩ := hr
  have HC := toHid (fun (W' : World) => within_calls c 64 xs.length W' hc (by omega) (by omega) (by omega) (by omega))
  rw [hin] at HC
  clear hin
  go_enter Tryd.func25, Tryd.ntmps25
  go_wp2_with fail
  refine (HC.out _).mono ?_
  rintro e w1 ⟨rfl, e1⟩
  clear HC
  go_wp2
  go_ret
  exact ⟨_, rfl, World.ownsRow_nil _ _ _ _, ext0 ((Ext.refl _ _).alloc _) e1⟩
/-- panel.Cut -/
theorem cut_calls {w : World} {v : Value} {xs : List Nat} (hr : Reads w v xs) (hu : U64 xs) (c : R) (hc : c.i64) (hl : xs.length ≤ 100000) : Calls Tryd.prog 25 #[v, c.val] w (CopyOf w (cutR xs c)) := by
  unfold cutR
  cases hin : inB c 64 (xs.length : Int) with
  | false => exact cut_out hr c hc hin hl
  | true =>
    obtain ⟨X, Y, W, H, rfl, h1, h2, h3, h4⟩ := inB_nat hin
    exact cut_in hr hu X Y W H h1 h2 (by omega) (by omega) hl

end Go.Proofs.YtmmcadbkmfjcbaaDoor
