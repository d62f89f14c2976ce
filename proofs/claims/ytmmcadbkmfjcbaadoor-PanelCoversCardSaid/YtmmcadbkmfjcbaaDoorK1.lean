/-
  shows: the walk.
-/
import Derived.Test.YtmmcadbkmfjcbaaDoorK0
namespace Go.Proofs.YtmmcadbkmfjcbaaDoor
open Go.RowKit
attribute [local go_sem] alloc_drewN setCell_drewN

theorem rows_eq {xs ys : List Nat} (hl : xs.length = ys.length) (h : ∀ j i, j < xs.length → (xs.getD j 0).testBit i = (ys.getD j 0).testBit i) : xs = ys := by
  apply List.ext_getElem hl
  intro j h1 h2
  have : xs.getD j 0 = ys.getD j 0 := Nat.eq_of_testBit_eq fun i => h j i h1
  rwa [List.getD_eq_getElem?_getD, List.getD_eq_getElem?_getD, List.getElem?_eq_getElem h1, List.getElem?_eq_getElem h2] at this
/-- Rows that are written over all of a page. -/
theorem put_all {W n : Nat} {xs rows : List Nat} (hx : ∀ x ∈ xs, x < 2 ^ W) (hr : ∀ x ∈ rows, x < 2 ^ W) (hl : xs.length = n) (hr2 : rows.length = n) : putN 0 0 W xs rows n = xs := by
  refine rows_eq (by rw [putN_length, hr2, hl]) fun j i hj => ?_
  rw [putN_length, hr2] at hj
  rw [putN_bit hx n (by omega)]
  by_cases h : i < W
  · rw [if_pos ⟨⟨by omega, by omega⟩, by omega, by omega⟩]
    simp
  · rw [if_neg (by omega), bit_lt (getD_small hr j) (by omega), bit_lt (getD_small hx j) (by omega)]
theorem show_all {W n : Nat} {xs : List Nat} (h1 : 1 ≤ W) (hn : 1 ≤ n) (hx : ∀ x ∈ xs, x < 2 ^ W) (hl : xs.length = n) : writeA ⟨W, List.replicate n 0, false, 0, 0⟩ ⟨0, 0, W, n⟩ xs = (0, ⟨W, xs, false, 0, 1⟩) := by
  have hv : validA W (List.replicate n 0).length ⟨0, 0, W, n⟩ xs = true := by
    unfold validA
    rw [inB_true (by simp; omega), decide_eq_true (by simp [hl])]
    simp only [Bool.true_and, List.all_eq_true, decide_eq_true_eq, Int.toNat_natCast]
    exact hx
  unfold writeA
  rw [if_pos hv]
  simp only [countA, Bool.false_eq_true, if_false, if_true, Int.toNat_natCast, Int.toNat_zero]
  rw [hl, put_all hx (fun x hx => by have := List.eq_of_mem_replicate hx; rw [this]; exact Nat.two_pow_pos _) hl (by simp)]
theorem new_ok {W n : Nat} (h2 : W ≤ 64) (h4 : n ≤ 64) : PanOK ⟨W, List.replicate n 0, false, 0, 0⟩ :=
  ⟨h2, by simp; omega, fun x hx => by have := List.eq_of_mem_replicate hx; omega, fun h => by simp at h, by simp, by simp, by simp⟩

def ShowsOf (w : World) (W : Nat) (xs : List Nat) (e : Ending) (w' : World) : Prop := ∃ b rv, e = .returned (ptr b) ∧ PanAt w' w.heap.size b rv ⟨W, xs, false, 0, 1⟩ ∧ Ext Nope w w'
set_option maxHeartbeats 1000000 in
/-- abugidalaw33.shows -/
theorem shows_calls {w : World} {v : Value} {xs : List Nat} (W : Nat) (h1 : 1 ≤ W) (h2 : W ≤ 64) (hr : Reads w v xs) (hvb : ∀ g, v.ownBlock = some g → g < w.heap.size) (hx : ∀ x ∈ xs, x < 2 ^ W) (h3 : 1 ≤ xs.length) (h4 : xs.length ≤ 64) :
    Calls Tryd.prog 29 #[.int .i64 W, v] w (ShowsOf w W xs) := by
  have hu : U64 xs := fun x hxx => Nat.lt_of_lt_of_le (hx x hxx) (show 2 ^ W ≤ 2 ^ 64 from Nat.pow_le_pow_right (by omega) h2)
  have HR := toHid (show _ ∧ _ from ⟨hr, hvb⟩)
  obtain ⟨av, cap, hv, _⟩ := hr
  obtain ⟨n, HN⟩ : ∃ n, Hid (xs.length = n) := ⟨_, rfl⟩
  rw [HN.out] at hv h3 h4
  subst hv
  have HA := toHid (show_all h1 h3 hx HN.out)
  have hl5 : xs.length ≤ 100000 := by rw [HN.out]; omega
  clear hvb
  go_enter Tryd.func29, Tryd.ntmps29
  go_wp2_with fail
  refine (new_calls W n _ h1 h2 h3 h4).mono ?_
  rintro e w1 ⟨b, rv, rfl, hp, x1⟩
  have HP := toHid (show _ ∧ _ from ⟨hp, x1⟩)
  clear hp x1
  go_wp2_with fail
  refine (write_calls (c := ⟨0, 0, W, n⟩) HP.out.1 (new_ok h2 h4) (HR.out.1.ext0 HP.out.2) (fun g hg z => by have := HR.out.2 g hg; have := (HP.out.1.foot g z).1; omega) hu (by unfold R.i64; simp only; omega) hl5).mono ?_
  rintro e w2 ⟨rfl, p2, x2⟩
  have HP2 := toHid (show PanAt w2 w.heap.size b rv ⟨W, xs, false, 0, 1⟩ ∧ Ext Nope w w2 from ⟨by rw [HA.out] at p2; exact p2, HP.out.2.trans x2 (fun i hi z => absurd (HP.out.1.foot i z).1 (by omega))⟩)
  rw [HA.out]
  clear p2 x2
  go_wp2
  go_ret
  exact ⟨_, _, rfl, HP2.out.1, HP2.out.2⟩
end Go.Proofs.YtmmcadbkmfjcbaaDoor
