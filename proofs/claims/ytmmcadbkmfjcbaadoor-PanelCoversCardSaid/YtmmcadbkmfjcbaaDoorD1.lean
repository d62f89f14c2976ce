/-
  The rectangle of a row, said by bits: the first and the last pixel that differ; and the list of the pieces, as the reference makes it.
-/
import Derived.Test.YtmmcadbkmfjcbaaDoorC5
namespace Go.Proofs.YtmmcadbkmfjcbaaDoor

/-- From X on, W pixels: all that are set, and set at both ends. -/
structure Tight (z : Nat) (X W : Int) : Prop where
  x0 : 0 ≤ X
  w0 : 1 ≤ W
  first : z.testBit X.toNat = true
  last : z.testBit (X + W - 1).toNat = true
  all : ∀ j : Nat, z.testBit j = true → X ≤ j ∧ (j : Int) < X + W
theorem Tight.same {z : Nat} {X W X' W' : Int} (h : Tight z X W) (k : Tight z X' W') : X = X' ∧ W = W' := by
  have a1 := k.all _ h.first
  have a2 := k.all _ h.last
  have b1 := h.all _ k.first
  have b2 := h.all _ k.last
  have := h.x0; have := h.w0; have := k.x0; have := k.w0
  omega
theorem bit_zero_all {z : Nat} (h : z ≠ 0) : ∃ j, z.testBit j = true := by
  obtain ⟨j, hj⟩ := Nat.exists_testBit_of_ne_zero h
  exact ⟨j, hj⟩
theorem span_tight {x : Nat} (hx : x < 18446744073709551616) (h0 : x ≠ 0) (k : Nat) : Tight x (spanA x k).x (spanA x k).w := by
  obtain ⟨s1, s2⟩ := span_bounds x hx h0
  obtain ⟨h1, h2, h3⟩ := Lib.bitLenAux_bounds 64 x hx h0
  change 1 ≤ Lib.bitLen x at h1
  change 2 ^ (Lib.bitLen x - 1) ≤ x at h2
  change x < 2 ^ Lib.bitLen x at h3
  obtain ⟨m, hm, _⟩ := Lib.ctzFrom_spec 64 x (by omega) hx
  have hc : Lib.ctz 64 x = Lib.ctzFrom 64 x := by unfold Lib.ctz; rw [if_neg h0]
  rw [← hc] at hm
  unfold spanA
  simp only
  generalize Lib.ctz 64 x = c at *
  generalize Lib.bitLen x = l at *
  have low : ∀ j, j < c → x.testBit j = false := fun j hj => by
    rw [hm, Nat.testBit_two_pow_mul]
    simp; omega
  have top : ∀ j, l ≤ j → x.testBit j = false := fun j hj => Nat.testBit_lt_two_pow (Nat.lt_of_lt_of_le h3 (Nat.pow_le_pow_right (by omega) hj))
  have hf : x.testBit c = true := by
    rw [hm, Nat.testBit_two_pow_mul]
    simp
  have hl : x.testBit (l - 1) = true := by
    cases h : x.testBit (l - 1) with
    | true => rfl
    | false =>
      have : x < 2 ^ (l - 1) := by
        refine Nat.lt_pow_two_of_testBit x fun i hi => ?_
        by_cases hi2 : i = l - 1
        · rw [hi2]; exact h
        · exact top i (by omega)
      omega
  refine ⟨by omega, by omega, by simpa using hf, ?_, fun j hj => ?_⟩
  · rw [show ((c : Int) + ((l : Int) - c) - 1).toNat = l - 1 by omega]; exact hl
  · by_cases h4 : j < c
    · rw [low j h4] at hj; cases hj
    · by_cases h5 : l ≤ j
      · rw [top j h5] at hj; cases hj
      · omega

theorem diff_bit (n a b j : Nat) : (diffA n a b).testBit j = (decide (j < n) && (a.testBit j != b.testBit j)) := by
  rw [diffA_mod, Nat.testBit_mod_two_pow, Nat.testBit_xor]
theorem diff_succ_same {n a b : Nat} (h : a.testBit n = b.testBit n) : diffA (n + 1) a b = diffA n a b := by
  apply Nat.eq_of_testBit_eq
  intro j
  rw [diff_bit, diff_bit]
  by_cases hj : j = n
  · subst hj; simp [h]
  · rw [show decide (j < n + 1) = decide (j < n) by apply decide_eq_decide.2; omega]
theorem diff_succ_bit {n a b : Nat} (h : a.testBit n ≠ b.testBit n) : (diffA (n + 1) a b).testBit n = true ∧ ∀ j, (diffA (n + 1) a b).testBit j = true → j = n ∨ (diffA n a b).testBit j = true := by
  refine ⟨by rw [diff_bit]; simp [h], fun j hj => ?_⟩
  rw [diff_bit] at hj ⊢
  simp only [Bool.and_eq_true, decide_eq_true_eq] at hj ⊢
  by_cases hjn : j = n
  · exact .inl hjn
  · exact .inr ⟨by omega, hj.2⟩
theorem row_tight (a b : Nat) (y : Int) : ∀ n, (diffA n a b = 0 → rowA a b y n = ⟨0, y, 0, 0⟩) ∧ (diffA n a b ≠ 0 → Tight (diffA n a b) (rowA a b y n).x (rowA a b y n).w ∧ (rowA a b y n).h = 1 ∧ (rowA a b y n).y = y)
  | 0 => by
    refine ⟨fun _ => rfl, fun h => absurd (Nat.eq_of_testBit_eq fun j => ?_) h⟩
    rw [diff_bit]; simp
  | n + 1 => by
    obtain ⟨i1, i2⟩ := row_tight a b y n
    by_cases hb : a.testBit n = b.testBit n
    · rw [diff_succ_same hb, rowA, if_pos hb]
      exact ⟨i1, i2⟩
    · obtain ⟨t1, t2⟩ := diff_succ_bit hb
      have hne : diffA (n + 1) a b ≠ 0 := fun h => by rw [h] at t1; simp at t1
      refine ⟨fun h => absurd h hne, fun _ => ?_⟩
      rw [rowA, if_neg hb]
      by_cases hz : diffA n a b = 0
      · rw [i1 hz, if_pos rfl]
        refine ⟨⟨by simp, by simp, by simpa using t1, by simpa using t1, fun j hj => ?_⟩, rfl, rfl⟩
        rcases t2 j hj with h | h
        · subst h; simp only; omega
        · rw [hz] at h; simp at h
      · obtain ⟨T, j1, j2⟩ := i2 hz
        rw [if_neg (by rw [j1]; decide)]
        have hx := T.x0
        have hw := T.w0
        have hlt : (rowA a b y n).x < n := by
          have h1 := T.first
          rw [diff_bit] at h1
          simp only [Bool.and_eq_true, decide_eq_true_eq] at h1
          omega
        have hup : ∀ j, (diffA n a b).testBit j = true → (diffA (n + 1) a b).testBit j = true := fun j hj => by
          rw [diff_bit] at hj ⊢
          simp only [Bool.and_eq_true, decide_eq_true_eq] at hj ⊢
          exact ⟨by omega, hj.2⟩
        refine ⟨⟨hx, by simp only; omega, hup _ T.first, ?_, fun j hj => ?_⟩, rfl, rfl⟩
        · simp only
          rw [show ((rowA a b y n).x + ((n : Int) - (rowA a b y n).x + 1) - 1).toNat = n by omega]
          exact t1
        · simp only
          rcases t2 j hj with h | h
          · subst h; omega
          · have := T.all j h
            have h3 : j < n := by
              rw [diff_bit] at h
              simp only [Bool.and_eq_true, decide_eq_true_eq] at h
              exact h.1
            omega
theorem row_span {a b n k : Nat} (hn : n ≤ 64) (h : diffA n a b ≠ 0) : rowA a b k n = spanA (diffA n a b) k := by
  obtain ⟨T, h1, h2⟩ := (row_tight a b k n).2 h
  obtain ⟨e1, e2⟩ := T.same (span_tight (diffA_lt n a b hn) h k)
  cases hr : rowA a b k n with
  | mk x y w hh =>
    rw [hr] at h1 h2 e1 e2
    simp only at h1 h2 e1 e2
    subst h1 h2
    rw [e1, e2]
    rfl
theorem row_none {a b n k : Nat} (h : diffA n a b = 0) : rowA a b k n = ⟨0, k, 0, 0⟩ := (row_tight a b k n).1 h

/-- The reference's list. -/
def rstepA (n a b k : Nat) (s : List R × Bool) : List R × Bool :=
  if 0 < (rowA a b k n).h then (if s.2 then (s.1.set (s.1.length - 1) (bothR (s.1.getD (s.1.length - 1) zeroR) (rowA a b k n)), true) else (s.1 ++ [rowA a b k n], true)) else (s.1, false)
def refA (n : Nat) (xs ys : List Nat) : Nat → List R × Bool
  | 0 => ([], false)
  | k + 1 => rstepA n (xs.getD k 0) (ys.getD k 0) k (refA n xs ys k)
theorem both_h {a b : R} (ha : 0 < a.h) (hb : 0 < b.h) : 0 < (bothR a b).h := by
  unfold bothR mnI mxI
  simp only
  (repeat' split) <;> omega
theorem refA_eq (n : Nat) (xs ys : List Nat) (hn : n ≤ 64) : ∀ k, refA n xs ys k = (closeA (piecesA n xs ys k), decide (0 < (piecesA n xs ys k).2.h))
  | 0 => by simp [refA, piecesA, closeA, zeroR]
  | k + 1 => by
    rw [refA, refA_eq n xs ys hn k, piecesA]
    generalize piecesA n xs ys k = s
    unfold rstepA stepA
    generalize xs.getD k 0 = a
    generalize ys.getD k 0 = b
    by_cases hz : diffA n a b = 0
    · rw [row_none hz, if_pos hz]
      simp only [Int.lt_irrefl, if_false]
      unfold closeA
      by_cases hs : 0 < s.2.h
      · simp [hs, zeroR]
      · simp [hs]
    · rw [row_span hn hz, if_neg hz]
      have h1 : (0 : Int) < (spanA (diffA n a b) k).h := by unfold spanA; simp
      rw [if_pos h1]
      unfold closeA
      by_cases hs : 0 < s.2.h
      · have hb := both_h hs h1
        simp [hs, hb]
      · simp [hs, h1]
theorem refA_end (n : Nat) (xs ys : List Nat) (hn : n ≤ 64) : (refA n xs ys xs.length).1 = piecesF n xs ys := by rw [refA_eq n xs ys hn]; rfl
theorem refA_ok (n : Nat) (xs ys : List Nat) (hn : n ≤ 64) (k : Nat) : (refA n xs ys k).1.length ≤ k + 1 ∧ (∀ r ∈ (refA n xs ys k).1, okR k r) ∧ ((refA n xs ys k).2 = true → 0 < (refA n xs ys k).1.length) := by
  rw [refA_eq n xs ys hn]
  obtain ⟨h1, h2, h3⟩ := piecesA_spec n xs ys hn k
  generalize piecesA n xs ys k = s at *
  unfold closeA
  by_cases hs : 0 < s.2.h
  · simp only [hs, if_true]
    refine ⟨by simp; omega, fun r hr => ?_, by simp⟩
    rcases List.mem_append.1 hr with h | h
    · exact h2 r h
    · simp at h; rw [h]; exact h3
  · simp only [hs, if_false]
    exact ⟨by omega, h2, by simp⟩
end Go.Proofs.YtmmcadbkmfjcbaaDoor
