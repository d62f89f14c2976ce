/-
  What is seen of a rectangle's rows, in the machine's words.
-/
import Derived.Test.YtmmcadbkmfjcbaaDoorP8
namespace Go.Proofs.YtmmcadbkmfjcbaaDoor

theorem bit_test {x i : Nat} (hx : x < 18446744073709551616) (hb : x.testBit i = true) : (bits .and .u64 ((x : Int) / 2 ^ i) 1 == 0) = false := by
  have h3 : x / 2 ^ i < 18446744073709551616 := Nat.lt_of_le_of_lt (Nat.div_le_self _ _) hx
  rw [shr_cast, show (1 : Int) = ((1 : Nat) : Int) from rfl, bits_and_u64_nat _ _ h3 (by omega), bit_and_one]
  rw [Nat.testBit_eq_decide_div_mod_eq] at hb
  generalize x / 2 ^ i = y at *
  simp at hb
  simp
  omega
theorem bit_test0 {x : Nat} (hx : x < 18446744073709551616) (hb : x.testBit 0 = true) : (bits .and .u64 (x : Int) 1 == 0) = false := by
  have h := bit_test hx hb
  simpa using h
theorem cut_lt (X w x : Nat) : cutX X w x < 2 ^ w := Nat.mod_lt _ (Nat.two_pow_pos _)
theorem cut_shl {X w x : Nat} (h : X + w ≤ 64) : cutX X w x * 2 ^ X < 18446744073709551616 := by
  have h1 := cut_lt X w x
  have h2 : cutX X w x * 2 ^ X < 2 ^ w * 2 ^ X := Nat.mul_lt_mul_of_pos_right h1 (Nat.two_pow_pos _)
  rw [← Nat.pow_add] at h2
  have h3 : 2 ^ (w + X) ≤ 2 ^ 64 := Nat.pow_le_pow_right (by omega) (by omega)
  omega
theorem clear_bits {X w z : Nat} (hz : z < 18446744073709551616) (h : X + w ≤ 64) : bits .andNot .u64 (z : Int) (IntKind.u64.wrap (((cutX X w z : Nat) : Int) * 2 ^ X)) = ((z ^^^ (z &&& (cutX X w z * 2 ^ X)) : Nat) : Int) := by
  have h1 := cut_shl (x := z) h
  rw [wrap_shl, Nat.mod_eq_of_lt h1, bits_andNot_u64 _ _ hz h1]
theorem clear_bit (X w z i : Nat) : (z ^^^ (z &&& (cutX X w z * 2 ^ X))).testBit i = (z.testBit i && !decide (X ≤ i ∧ i < X + w)) := by
  rw [Nat.testBit_xor, Nat.testBit_and, bit_shl, cut_bit]
  by_cases h1 : X ≤ i
  · rw [show X + (i - X) = i by omega]
    by_cases h2 : i - X < w
    · have h3 : X ≤ i ∧ i < X + w := ⟨h1, by omega⟩
      simp [h1, h2, h3]
    · have h3 : ¬(X ≤ i ∧ i < X + w) := by omega
      simp only [h2, h3, decide_false, Bool.false_and, Bool.and_false, Bool.not_false, Bool.and_true, Bool.xor_false]
  · have h3 : decide (X ≤ i ∧ i < X + w) = false := decide_eq_false (by omega)
    have h4 : decide (X ≤ i) = false := decide_eq_false h1
    rw [h3, h4]
    simp
/-- A row of a rectangle that comes next shows what differs there. -/
theorem seen_row {xs ys rest : List Nat} {pre : List R} {r : R} {X Y w h' kk z : Nat} (hr : r.x = X ∧ r.y = Y ∧ r.w = w ∧ r.h = h') (ha : ∀ p ∈ pre, p.y + p.h ≤ r.y) (hk : Y ≤ kk) (hkx : kk < xs.length) (hz : rest[kk]? = some z)
    (hR : Rest xs ys rest (fun j i => (∃ r ∈ pre, inR r j i) ∨ (inR r j i ∧ j < kk))) : ∀ i, (cutX X w z).testBit i = true ↔ i < w ∧ Differ xs ys kk (X + i) := by
  intro i
  rw [cut_bit, Bool.and_eq_true, decide_eq_true_eq]
  have e : rest.getD kk 0 = z := by rw [List.getD_eq_getElem?_getD, hz]; rfl
  have hb := hR.bit kk (X + i) hkx
  rw [e] at hb
  rw [hb]
  refine and_congr_right fun hi => ⟨fun h => h.1, fun h => ⟨h, ?_⟩⟩
  rintro (⟨p, hp, hin⟩ | ⟨_, hlt⟩)
  · have := ha p hp
    have := hin.2.1
    omega
  · omega
/-- At the end of a rectangle its first and its last column were seen. -/
theorem seen_all {xs ys : List Nat} {r : R} {X Y w h' kk all : Nat} (hr : r.x = X ∧ r.y = Y ∧ r.w = w ∧ r.h = h') (hw : 1 ≤ w) (hw2 : w ≤ 64) (hk : kk = Y + h') (hs : Sharp xs ys r) (hal : ∀ i, all.testBit i = true ↔ i < w ∧ ∃ j, Y ≤ j ∧ j < kk ∧ Differ xs ys j (X + i)) :
    (bits .and .u64 (all : Int) 1 == 0) = false ∧ (bits .and .u64 ((all : Int) / 2 ^ (w - 1)) 1 == 0) = false := by
  obtain ⟨r1, r2, r3, r4⟩ := hr
  have hlt : all < 18446744073709551616 := by
    refine lt_of_bits2 (W := 64) fun i hi => ?_
    cases hb : all.testBit i with
    | false => rfl
    | true => have := ((hal i).1 hb).1; omega
  constructor
  · refine bit_test0 hlt ((hal 0).2 ⟨by omega, ?_⟩)
    obtain ⟨j, h1, h2, h3⟩ := hs.left
    rw [r1, Int.toNat_natCast] at h3
    exact ⟨j, by omega, by omega, h3⟩
  · refine bit_test hlt ((hal (w - 1)).2 ⟨by omega, ?_⟩)
    obtain ⟨j, h1, h2, h3⟩ := hs.right
    rw [r1, r3, show ((X : Int) + (w : Int) - 1).toNat = X + (w - 1) by omega] at h3
    exact ⟨j, by omega, by omega, h3⟩
/-- In the first and in the last row something was seen. -/
theorem seen_ends {xs ys : List Nat} {r : R} {X Y w h' kk c : Nat} (hr : r.x = X ∧ r.y = Y ∧ r.w = w ∧ r.h = h') (hh : 1 ≤ h') (hs : Sharp xs ys r) (hc : ∀ i, c.testBit i = true ↔ i < w ∧ Differ xs ys kk (X + i)) (h0 : c = 0) : kk ≠ Y ∧ kk ≠ Y + h' - 1 := by
  obtain ⟨r1, r2, r3, r4⟩ := hr
  constructor
  · rintro rfl
    obtain ⟨i, h1, h2, h3⟩ := hs.top
    rw [r2, Int.toNat_natCast] at h3
    have := (hc (i - X)).2 ⟨by omega, by rw [show X + (i - X) = i by omega]; exact h3⟩
    rw [h0, Nat.zero_testBit] at this
    cases this
  · rintro rfl
    obtain ⟨i, h1, h2, h3⟩ := hs.bottom
    rw [r2, r4, show ((Y : Int) + (h' : Int) - 1).toNat = Y + h' - 1 by omega] at h3
    have := (hc (i - X)).2 ⟨by omega, by rw [show X + (i - X) = i by omega]; exact h3⟩
    rw [h0, Nat.zero_testBit] at this
    cases this
theorem apart_mid {pre post : List R} {r : R} (h : Apart (pre ++ r :: post)) : (∀ p ∈ pre, p.y + p.h ≤ r.y) ∧ ∀ q ∈ post, r.y + r.h ≤ q.y := by
  unfold Apart at h
  rw [List.pairwise_append, List.pairwise_cons] at h
  exact ⟨fun p hp => h.2.2 p hp r (by simp), fun q hq => h.2.1.1 q hq⟩
end Go.Proofs.YtmmcadbkmfjcbaaDoor
