/-
  panel.Write, in every case.
-/
import Derived.Test.YtmmcadbkmfjcbaaDoorE5
namespace Go.Proofs.YtmmcadbkmfjcbaaDoor
open Go.RowKit
attribute [local go_sem] alloc_drewN setCell_drewN

theorem writeA_bad {p : Pan} {c : R} {xs : List Nat} (h : validA p.w p.rows.length c xs = false) : writeA p c xs = (1, p) := by unfold writeA; rw [if_neg (by rw [h]; decide)]
/-- panel.Write -/
theorem write_calls {w : World} {base b : Nat} {rv v : Value} {p : Pan} {xs : List Nat} {c : R} (h : PanAt w base b rv p) (ok : PanOK p) (hr : Reads w v xs) (hsep : ∀ g, v.ownBlock = some g → ¬ Foot b rv g) (hu : U64 xs) (hc : c.i64) (hl : xs.length ≤ 100000) :
    Calls Tryd.prog 30 #[ptr b, c.val, v] w (WriteOf w base b rv (writeA p c xs)) := by
  cases hin : inB c p.w p.rows.length with
  | false =>
    have e := writeA_bad (p := p) (c := c) (xs := xs) (by unfold validA; rw [hin]; rfl)
    rw [e]
    exact write_out h ok hr hu hc hl hin
  | true =>
    by_cases hlen : (xs.length : Int) = c.h
    · cases hall : allS c.w.toNat xs with
      | true => exact write_good h ok hr hsep hu hc hl hin hlen hall
      | false =>
        have e := writeA_bad (p := p) (c := c) (xs := xs) (by unfold validA; rw [hin, decide_eq_true hlen]; exact hall)
        rw [e]
        exact write_over h ok hr hu hc hl hin hlen hall
    · have e := writeA_bad (p := p) (c := c) (xs := xs) (by unfold validA; rw [hin, decide_eq_false hlen]; rfl)
      rw [e]
      exact write_len h ok hr hu hc hl hin hlen

set_option maxRecDepth 100000 in
set_option maxHeartbeats 2000000 in
theorem write_nil (w : World) (c : R) (av : Option Addr) (n cap : Nat) : Calls Tryd.prog 30 #[.pointer none, c.val, .slice av n cap] w fun e w' => e = .returned (.int .i64 1) ∧ Ext Nope w w' := by
  go_enter Tryd.func30, Tryd.ntmps30
  go_wp2
  refine wp_region_head 22 (fun _ => True) (by kernel_rfl) (by kernel_rfl) trivial (fun hO hHeld => ?_)
  refine wpAnyT_takeD (i := 0) (d := some 12) (v := ?_) hO rfl rfl (by kernel_rfl) (fun _ _ _ h => h) (Or.inl ⟨by rfl, ?_⟩) (by exact hHeld) ?_
  rotate_left
  · intro w' hSw
    go_simp
    try (with_reducible rfl)
  try simp only [Act.put, List.setIfInBounds_toArray, List.set_cons_zero, List.set_cons_succ]
  refine wpAnyT_takeD (i := 1) (d := some 13) (v := ?_) hO rfl rfl (by kernel_rfl) (fun _ _ _ h => h) (Or.inl ⟨by rfl, ?_⟩) (by exact hHeld) ?_
  rotate_left
  · intro w' hSw
    go_simp
    try (with_reducible rfl)
  try simp only [Act.put, List.setIfInBounds_toArray, List.set_cons_zero, List.set_cons_succ]
  refine wpAnyT_takeD (i := 2) (d := some 14) (v := ?_) hO rfl rfl (by kernel_rfl) (fun _ _ _ h => h) (Or.inl ⟨by rfl, ?_⟩) (by exact hHeld) ?_
  rotate_left
  · intro w' hSw
    go_simp
    try (with_reducible rfl)
  try simp only [Act.put, List.setIfInBounds_toArray, List.set_cons_zero, List.set_cons_succ]
  refine wpAnyT_takeD (i := 3) (d := some 15) (v := undef) hO rfl rfl (by kernel_rfl) (fun _ _ _ h => h) (Or.inr ⟨by rfl, rfl⟩) (by exact hHeld) ?_
  try simp only [Act.put, List.setIfInBounds_toArray, List.set_cons_zero, List.set_cons_succ]
  refine wpAnyT_takeD (i := 4) (d := some 16) (v := undef) hO rfl rfl (by kernel_rfl) (fun _ _ _ h => h) (Or.inr ⟨by rfl, rfl⟩) (by exact hHeld) ?_
  try simp only [Act.put, List.setIfInBounds_toArray, List.set_cons_zero, List.set_cons_succ]
  refine wpAnyT_takeD (i := 5) (d := some 17) (v := undef) hO rfl rfl (by kernel_rfl) (fun _ _ _ h => h) (Or.inr ⟨by rfl, rfl⟩) (by exact hHeld) ?_
  try simp only [Act.put, List.setIfInBounds_toArray, List.set_cons_zero, List.set_cons_succ]
  refine wpAnyT_takeD (i := 6) (d := some 18) (v := undef) hO rfl rfl (by kernel_rfl) (fun _ _ _ h => h) (Or.inr ⟨by rfl, rfl⟩) (by exact hHeld) ?_
  try simp only [Act.put, List.setIfInBounds_toArray, List.set_cons_zero, List.set_cons_succ]
  refine wpAnyT_takeD (i := 7) (d := some 19) (v := undef) hO rfl rfl (by kernel_rfl) (fun _ _ _ h => h) (Or.inr ⟨by rfl, rfl⟩) (by exact hHeld) ?_
  try simp only [Act.put, List.setIfInBounds_toArray, List.set_cons_zero, List.set_cons_succ]
  refine wpAnyT_takeD (i := 8) (d := some 20) (v := undef) hO rfl rfl (by kernel_rfl) (fun _ _ _ h => h) (Or.inr ⟨by rfl, rfl⟩) (by exact hHeld) ?_
  try simp only [Act.put, List.setIfInBounds_toArray, List.set_cons_zero, List.set_cons_succ]
  refine wpAnyT_takeD (i := 9) (d := some 21) (v := undef) hO rfl rfl (by kernel_rfl) (fun _ _ _ h => h) (Or.inr ⟨by rfl, rfl⟩) (by exact hHeld) ?_
  try simp only [Act.put, List.setIfInBounds_toArray, List.set_cons_zero, List.set_cons_succ]
  refine wpAnyT_takeD (i := 10) (d := some 22) (v := undef) hO rfl rfl (by kernel_rfl) (fun _ _ _ h => h) (Or.inr ⟨by rfl, rfl⟩) (by exact hHeld) ?_
  try simp only [Act.put, List.setIfInBounds_toArray, List.set_cons_zero, List.set_cons_succ]
  refine wpAnyT_takeD (i := 11) (d := some 23) (v := undef) hO rfl rfl (by kernel_rfl) (fun _ _ _ h => h) (Or.inr ⟨by rfl, rfl⟩) (by exact hHeld) ?_
  try simp only [Act.put, List.setIfInBounds_toArray, List.set_cons_zero, List.set_cons_succ]
  refine wpAnyT_takeD (i := 12) (d := some 24) (v := undef) hO rfl rfl (by kernel_rfl) (fun _ _ _ h => h) (Or.inr ⟨by rfl, rfl⟩) (by exact hHeld) ?_
  try simp only [Act.put, List.setIfInBounds_toArray, List.set_cons_zero, List.set_cons_succ]
  refine wpAnyT_takeD (i := 13) (d := some 25) (v := undef) hO rfl rfl (by kernel_rfl) (fun _ _ _ h => h) (Or.inr ⟨by rfl, rfl⟩) (by exact hHeld) ?_
  try simp only [Act.put, List.setIfInBounds_toArray, List.set_cons_zero, List.set_cons_succ]
  refine wpAnyT_takeD (i := 14) (d := some 26) (v := undef) hO rfl rfl (by kernel_rfl) (fun _ _ _ h => h) (Or.inr ⟨by rfl, rfl⟩) (by exact hHeld) ?_
  try simp only [Act.put, List.setIfInBounds_toArray, List.set_cons_zero, List.set_cons_succ]
  refine wpAnyT_takeD (i := 15) (d := some 27) (v := ?_) hO rfl rfl (by kernel_rfl) (fun _ _ _ h => h) (Or.inl ⟨by rfl, ?_⟩) (by exact hHeld) ?_
  rotate_left
  · intro w' hSw
    go_simp
    try (with_reducible rfl)
  try simp only [Act.put, List.setIfInBounds_toArray, List.set_cons_zero, List.set_cons_succ]
  refine wpAnyT_takeD (i := 16) (d := some 28) (v := ?_) hO rfl rfl (by kernel_rfl) (fun _ _ _ h => h) (Or.inl ⟨by rfl, ?_⟩) (by exact hHeld) ?_
  rotate_left
  · intro w' hSw
    go_simp
    try (with_reducible rfl)
  try simp only [Act.put, List.setIfInBounds_toArray, List.set_cons_zero, List.set_cons_succ]
  refine wpAnyT_takeD (i := 17) (d := some 29) (v := undef) hO rfl rfl (by kernel_rfl) (fun _ _ _ h => h) (Or.inr ⟨by rfl, rfl⟩) (by exact hHeld) ?_
  try simp only [Act.put, List.setIfInBounds_toArray, List.set_cons_zero, List.set_cons_succ]
  refine wpAnyT_takeD (i := 18) (d := some 30) (v := undef) hO rfl rfl (by kernel_rfl) (fun _ _ _ h => h) (Or.inr ⟨by rfl, rfl⟩) (by exact hHeld) ?_
  try simp only [Act.put, List.setIfInBounds_toArray, List.set_cons_zero, List.set_cons_succ]
  refine wpAnyT_takeD (i := 19) (d := some 31) (v := undef) hO rfl rfl (by kernel_rfl) (fun _ _ _ h => h) (Or.inr ⟨by rfl, rfl⟩) (by exact hHeld) ?_
  try simp only [Act.put, List.setIfInBounds_toArray, List.set_cons_zero, List.set_cons_succ]
  refine wpAnyT_takeD (i := 20) (d := some 32) (v := undef) hO rfl rfl (by kernel_rfl) (fun _ _ _ h => h) (Or.inr ⟨by rfl, rfl⟩) (by exact hHeld) ?_
  try simp only [Act.put, List.setIfInBounds_toArray, List.set_cons_zero, List.set_cons_succ]
  refine wpAnyT_takeD (i := 21) (d := some 33) (v := undef) hO rfl rfl (by kernel_rfl) (fun _ _ _ h => h) (Or.inr ⟨by rfl, rfl⟩) (by exact hHeld) ?_
  try simp only [Act.put, List.setIfInBounds_toArray, List.set_cons_zero, List.set_cons_succ]
  refine wpAnyT_done (by kernel_rfl) ⟨by kernel_rfl, ?_⟩
  simp only [List.drop_succ_cons, List.drop_zero]
  go_wp2
  go_ret
  exact ⟨rfl, ((Ext.refl _ _).alloc _).drew⟩
end Go.Proofs.YtmmcadbkmfjcbaaDoor
