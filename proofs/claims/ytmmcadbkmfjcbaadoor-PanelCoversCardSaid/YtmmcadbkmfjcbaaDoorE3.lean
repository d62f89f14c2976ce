/-
  Are there pixels beyond the width?
-/
import Derived.Test.YtmmcadbkmfjcbaaDoorE2
namespace Go.Proofs.YtmmcadbkmfjcbaaDoor
open Go.RowKit
attribute [local go_sem] alloc_drewN setCell_drewN

theorem over_bits {x W : Nat} (hx : x < 18446744073709551616) (hW : W ≤ 64) : (bits .andNot .u64 (x : Int) ((2 ^ W - 1 : Nat) : Int) == 0) = decide (x < 2 ^ W) := by
  have hm : 2 ^ W - 1 < 18446744073709551616 := Nat.lt_of_lt_of_le (Nat.sub_lt (Nat.two_pow_pos _) (by omega)) (show 2 ^ W ≤ 2 ^ 64 from Nat.pow_le_pow_right (by omega) hW)
  rw [bits_andNot_u64 _ _ hx hm]
  have e : x ^^^ (x &&& (2 ^ W - 1)) = 0 ↔ x < 2 ^ W := by
    rw [Nat.and_two_pow_sub_one_eq_mod]
    constructor
    · intro h
      have h2 : x = x % 2 ^ W := Nat.eq_of_testBit_eq fun i => by
        have h3 := congrArg (fun z => z.testBit i) h
        simp only [Nat.testBit_xor, Nat.zero_testBit] at h3
        revert h3
        cases x.testBit i <;> cases (x % 2 ^ W).testBit i <;> simp
      rw [h2]; exact Nat.mod_lt _ (Nat.two_pow_pos _)
    · intro h
      rw [Nat.mod_eq_of_lt h, Nat.xor_self]
  rw [Bool.eq_iff_iff]
  simp only [beq_iff_eq, decide_eq_true_eq]
  rw [← e]
  omega
/-- the closure of panel.Write -/
theorem over_calls (x W m : Nat) (w : World) (hx : x < 18446744073709551616) (hW : W ≤ 64) (hm : w.cell? ⟨m, 0, none⟩ = some (u64 (2 ^ W - 1))) : Calls Tryd.prog 50 #[u64 x, ptr m] w fun e w' => e = .returned (.bool (!decide (x < 2 ^ W))) ∧ w = w' := by
  have h1 := toHid (over_bits hx hW)
  obtain ⟨z, hz⟩ : ∃ z, 2 ^ W - 1 = z := ⟨_, rfl⟩
  rw [hz] at hm h1
  go_enter Tryd.func50, Tryd.ntmps50
  go_wp2
  go_ret
  refine ⟨ret_bool ?_, rfl⟩
  rw [← h1.out]; rfl
def allS (W : Nat) (xs : List Nat) : Bool := xs.all fun x => decide (x < 2 ^ W)
theorem allS_take {W k x : Nat} {xs : List Nat} (h : xs[k]? = some x) : allS W (xs.take (k + 1)) = (allS W (xs.take k) && decide (x < 2 ^ W)) := by
  unfold allS
  rw [take_snoc h]; simp
theorem allS_false {W k x : Nat} {xs : List Nat} (h : xs[k]? = some x) (hx : ¬ x < 2 ^ W) : allS W xs = false := by
  unfold allS
  rw [List.all_eq_false]
  exact ⟨x, List.mem_of_getElem? h, by simpa using hx⟩
def IdxOf (w : World) (W : Nat) (xs : List Nat) (e : Ending) (w' : World) : Prop := ∃ r : Int, e = .returned (.int .i64 r) ∧ decide (0 ≤ r) = !allS W xs ∧ w = w'
set_option maxHeartbeats 1000000 in
/-- slices.IndexFunc -/
theorem index_calls {w : World} {v : Value} {xs : List Nat} (W m : Nat) (hr : Reads w v xs) (hu : U64 xs) (hW : W ≤ 64) (hm : w.cell? ⟨m, 0, none⟩ = some (u64 (2 ^ W - 1))) (hl : xs.length ≤ 100000) : Calls Tryd.prog 60 #[v, .func (.func 50) #[] #[ptr m]] w (IdxOf w W xs) := by
  have HR := toHid hr
  have HM := toHid hm
  obtain ⟨av, cap, hv, _⟩ := hr
  obtain ⟨n, HN⟩ : ∃ n, Hid (xs.length = n) := ⟨_, rfl⟩
  rw [HN.out] at hv hl
  subst hv
  clear hm
  go_enter Tryd.func60, Tryd.ntmps60
  go_wp2
  go_loop [8] (fun i => ∃ k : Nat, i = .int .i64 k ∧ k ≤ n ∧ allS W (xs.take k) = true) (fun i => n - (intOf i).toNat)
  case atStart => exact ⟨0, rfl, Nat.zero_le _, rfl⟩
  case round =>
    obtain ⟨k, rfl, hk, ha⟩ := hrel
    by_cases hkn : k < n
    · obtain ⟨b, off, rfl, hb, hc⟩ := HR.out.at (by omega)
      obtain ⟨x, hx⟩ := some_at (k := k) hkn HN.out
      have c := hc k x hx
      have hx64 := hu.at hx
      have hov := over_calls x W m w hx64 hW HM.out
      have hat := allS_take (W := W) hx
      rw [ha, Bool.true_and] at hat
      by_cases hlt : x < 2 ^ W
      · rw [decide_eq_true hlt] at hov hat
        have HO := toHid hov
        have HA := toHid hat
        clear hc hx hov hat hlt ha
        go_wp2_with (go_at_call 50; refine HO.out.mono ?_; rintro e w' ⟨rfl, rfl⟩)
        go_round
        case rel => exact ⟨k + 1, by go_num, by omega, HA.out⟩
        case measure => simp [intOf]; omega
      · rw [decide_eq_false hlt] at hov
        have HO := toHid hov
        have HA := toHid (allS_false hx hlt)
        clear hc hx hov hat hlt ha
        go_wp2_with (go_at_call 50; refine HO.out.mono ?_; rintro e w' ⟨rfl, rfl⟩)
        go_ret
        exact ⟨_, rfl, by rw [HA.out]; simp, rfl⟩
    · have hkk : k = n := by omega
      subst hkk
      rw [List.take_of_length_le (by rw [HN.out]; exact Nat.le_refl _)] at ha
      have HA := toHid ha
      clear ha
      go_wp2
      go_ret
      exact ⟨_, rfl, by rw [HA.out]; decide, rfl⟩
/-- slices.ContainsFunc -/
theorem contains_calls {w : World} {v : Value} {xs : List Nat} (W m : Nat) (hr : Reads w v xs) (hu : U64 xs) (hW : W ≤ 64) (hm : w.cell? ⟨m, 0, none⟩ = some (u64 (2 ^ W - 1))) (hl : xs.length ≤ 100000) : Calls Tryd.prog 49 #[v, .func (.func 50) #[] #[ptr m]] w fun e w' => e = .returned (.bool (!allS W xs)) ∧ w = w' := by
  have HI := toHid (index_calls W m hr hu hW hm hl)
  clear hr hm
  go_enter Tryd.func49, Tryd.ntmps49
  go_wp2_with (go_at_call 60; refine HI.out.mono ?_; rintro e w' ⟨r, rfl, hrr, rfl⟩; have HRR := toHid hrr; clear hrr)
  go_ret
  exact ⟨ret_bool HRR.out, rfl⟩
end Go.Proofs.YtmmcadbkmfjcbaaDoor
