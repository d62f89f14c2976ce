/-
  Plans in plain lists: the reference's and the program's are one.
-/
import Derived.Test.YtmmcadbkmfjcbaaDoorE9
namespace Go.Proofs.YtmmcadbkmfjcbaaDoor

/-- A rectangle with pixels, of the first k rows. -/
structure Good (k : Int) (r : R) : Prop where
  ok : okR k r
  w : 1 ≤ r.w
  h : 1 ≤ r.h
theorem Good.mono {k k' : Int} {r : R} (h : Good k r) (hk : k ≤ k') : Good k' r := ⟨h.ok.mono hk, h.w, h.h⟩
theorem good_both {k : Int} {a b : R} (ha : Good k a) (hb : Good k b) : Good k (bothR a b) := by
  refine ⟨okR_both ha.ok hb.ok, ?_, both_h (by have := ha.h; omega) (by have := hb.h; omega)⟩
  have := ha.w
  have := hb.w
  unfold bothR mnI mxI
  simp only
  (repeat' split) <;> omega
theorem area_le {k : Int} {r : R} (h : Good k r) (hk : k ≤ 64) : areaR r ≤ 4096 ∧ 1 ≤ areaR r := by
  obtain ⟨⟨a1, a2, a3, a4, a5, a6⟩, hw, hh⟩ := h
  unfold areaR
  constructor
  · have := Int.mul_le_mul (show r.w ≤ 64 by omega) (show r.h ≤ 64 by omega) (by omega) (by omega)
    omega
  · have := Int.mul_le_mul hw hh (by omega) (by omega)
    omega
theorem more_lt {k : Int} {a b : R} (ha : Good k a) (hb : Good k b) (hk : k ≤ 64) : moreA a b < 4096 := by
  have h1 := area_le (good_both ha hb) hk
  have h2 := area_le ha hk
  have h3 := area_le hb hk
  unfold moreA
  omega
theorem span_good {x k : Nat} (hx : x < 18446744073709551616) (h0 : x ≠ 0) : Good (k + 1) (spanA x k) :=
  ⟨okR_span hx h0 k, (span_tight hx h0 k).w0, by unfold spanA; simp⟩
theorem pieces_good (n : Nat) (xs ys : List Nat) (hn : n ≤ 64) : ∀ k, (∀ r ∈ (piecesA n xs ys k).1, Good k r) ∧ (0 < (piecesA n xs ys k).2.h → Good k (piecesA n xs ys k).2)
  | 0 => by simp [piecesA, zeroR]
  | k + 1 => by
    obtain ⟨h1, h2⟩ := pieces_good n xs ys hn k
    unfold piecesA stepA
    have hlt := diffA_lt n (xs.getD k 0) (ys.getD k 0) hn
    generalize diffA n (xs.getD k 0) (ys.getD k 0) = x at *
    generalize piecesA n xs ys k = s at *
    have m1 : ∀ r ∈ s.1, Good ((k + 1 : Nat) : Int) r := fun r hr => (h1 r hr).mono (by omega)
    split
    · split
      · rename_i hs
        refine ⟨fun r hr => ?_, fun h => by simp [zeroR] at h⟩
        rcases List.mem_append.1 hr with h | h
        · exact m1 r h
        · simp at h; rw [h]; exact (h2 hs).mono (by omega)
      · rename_i hs
        exact ⟨m1, fun h => absurd h hs⟩
    · rename_i hx0
      have hsp : Good ((k + 1 : Nat) : Int) (spanA x k) := by have := span_good (k := k) hlt hx0; simpa using this
      refine ⟨m1, fun _ => ?_⟩
      simp only
      split
      · rename_i hs
        exact good_both ((h2 hs).mono (by omega)) hsp
      · exact hsp
theorem piecesF_good (n : Nat) (xs ys : List Nat) (hn : n ≤ 64) : ∀ r ∈ piecesF n xs ys, Good xs.length r := by
  obtain ⟨h1, h2⟩ := pieces_good n xs ys hn xs.length
  intro r hr
  unfold piecesF closeA at hr
  split at hr
  · rename_i hs
    rcases List.mem_append.1 hr with h | h
    · exact h1 r h
    · simp at h; rw [h]; exact h2 hs
  · exact h1 r hr
theorem join_good {k : Int} {rs : List R} {b : Nat} (h : b + 2 ≤ rs.length) (ho : ∀ r ∈ rs, Good k r) : ∀ r ∈ joinA rs b, Good k r := by
  intro r hr
  unfold joinA at hr
  rcases List.mem_append.1 hr with h1 | h1
  · exact ho r (List.mem_of_mem_take h1)
  · rcases List.mem_cons.1 h1 with rfl | h2
    · exact good_both (ho _ (getD_mem (by omega))) (ho _ (getD_mem (by omega)))
    · exact ho r (List.mem_of_mem_drop h2)
/-- Where it begins plays no part: any two that stand side by side cost less. -/
theorem best_init {K : Int} {rs : List R} (hK : K ≤ 64) (hg : ∀ r ∈ rs, Good K r) (i j : Int) (hi : 4096 ≤ i) (hj : 4096 ≤ j) : ∀ k, k + 1 < rs.length → bestA i rs (k + 1) = bestA j rs (k + 1)
  | 0, h => by
    have hm := more_lt (hg _ (getD_mem (k := 0) (by omega))) (hg _ (getD_mem (k := 1) (by omega))) hK
    have e : ∀ q : Int, 4096 ≤ q → bestA q rs (0 + 1) = (0, moreA (rs.getD 0 zeroR) (rs.getD (0 + 1) zeroR)) := fun q hq => by
      rw [bestA, if_pos (show moreA (rs.getD 0 zeroR) (rs.getD (0 + 1) zeroR) < (bestA q rs 0).2 from Int.lt_of_lt_of_le hm hq)]
    rw [e i hi, e j hj]
  | k + 1, h => by
    have ih := best_init hK hg i j hi hj k (by omega)
    rw [bestA, ih]
    rw [show bestA j rs (k + 1 + 1) = if moreA (rs.getD (k + 1) zeroR) (rs.getD (k + 1 + 1) zeroR) < (bestA j rs (k + 1)).2 then (k + 1, moreA (rs.getD (k + 1) zeroR) (rs.getD (k + 1 + 1) zeroR)) else bestA j rs (k + 1) from rfl]
theorem best_le2 (i : Int) (rs : List R) (h : 2 ≤ rs.length) : (bestA i rs (rs.length - 1)).1 + 2 ≤ rs.length := by
  have := bestA_le i rs (rs.length - 1)
  omega
theorem thin_init {K : Int} (hK : K ≤ 64) (i j : Int) (hi : 4096 ≤ i) (hj : 4096 ≤ j) (many : Nat) (hm : 1 ≤ many) : ∀ (f : Nat) (rs : List R), (∀ r ∈ rs, Good K r) → thinA i many f rs = thinA j many f rs
  | 0, _, _ => rfl
  | f + 1, rs, hg => by
    unfold thinA
    split
    · rename_i hlen
      have e : bestA i rs (rs.length - 1) = bestA j rs (rs.length - 1) := by
        have := best_init hK hg i j hi hj (rs.length - 2) (by omega)
        rw [show rs.length - 2 + 1 = rs.length - 1 by omega] at this
        exact this
      rw [e]
      exact thin_init hK i j hi hj many hm f _ (join_good (best_le2 j rs (by omega)) hg)
    · rfl
theorem plan_same (n many : Int) (xs ys : List Nat) : rplanA n many xs ys = planA n many xs ys := by
  unfold rplanA planA
  by_cases h : planOK n many xs ys
  · rw [if_pos h, if_pos h]
    obtain ⟨n', many', rfl, rfl, h1, h2, h3, h4, h5⟩ := okPlan h
    simp only [Int.toNat_natCast]
    exact thin_init (K := xs.length) (by omega) 1048576 4096 (by omega) (by omega) many' h5 65 _ (piecesF_good n' xs ys h2)
  · rw [if_neg h, if_neg h]
end Go.Proofs.YtmmcadbkmfjcbaaDoor
