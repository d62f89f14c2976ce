/-
  Plan: the law.
-/
import Derived.Test.YtmmcadbkmfjcbaaDoorC4
namespace Go.Proofs.YtmmcadbkmfjcbaaDoor
open Go.RowKit

def moreA (a b : R) : Int := areaR (bothR a b) - areaR a - areaR b
/-- Which two that stand side by side cost least: the first of them, and what it costs. -/
def bestA (init : Int) (rs : List R) : Nat → Nat × Int
  | 0 => (0, init)
  | k + 1 => if moreA (rs.getD k zeroR) (rs.getD (k + 1) zeroR) < (bestA init rs k).2 then (k, moreA (rs.getD k zeroR) (rs.getD (k + 1) zeroR)) else bestA init rs k
def joinA (rs : List R) (b : Nat) : List R := rs.take b ++ bothR (rs.getD b zeroR) (rs.getD (b + 1) zeroR) :: rs.drop (b + 2)
def thinA (init : Int) (many : Nat) : Nat → List R → List R
  | 0, rs => rs
  | f + 1, rs => if many < rs.length then thinA init many f (joinA rs (bestA init rs (rs.length - 1)).1) else rs
def planOK (n many : Int) (xs ys : List Nat) : Prop := 1 ≤ n ∧ n ≤ 64 ∧ xs.length = ys.length ∧ xs.length ≤ 64 ∧ 1 ≤ many
instance (n many : Int) (xs ys : List Nat) : Decidable (planOK n many xs ys) := by unfold planOK; infer_instance
def planA (n many : Int) (xs ys : List Nat) : List R := if planOK n many xs ys then thinA 4096 many.toNat 65 (piecesF n.toNat xs ys) else []

theorem bestA_le (init : Int) (rs : List R) : ∀ k, (bestA init rs k).1 ≤ k - 1
  | 0 => by simp [bestA]
  | k + 1 => by
    have := bestA_le init rs k
    unfold bestA
    split
    · simp
    · omega
theorem joinA_length {rs : List R} {b : Nat} (h : b + 2 ≤ rs.length) : (joinA rs b).length = rs.length - 1 := by simp [joinA]; omega
theorem getD_at {rs : List R} {k : Nat} (h : k < rs.length) : rs[k]? = some (rs.getD k zeroR) := by
  rw [List.getD_eq_getElem?_getD, List.getElem?_eq_getElem h]; rfl
theorem getD_mem {rs : List R} {k : Nat} (h : k < rs.length) : rs.getD k zeroR ∈ rs := List.mem_of_getElem? (getD_at h)
theorem joinA_ok {K : Int} {rs : List R} {b : Nat} (h : b + 2 ≤ rs.length) (ho : ∀ r ∈ rs, okR K r) : ∀ r ∈ joinA rs b, okR K r := by
  intro r hr
  unfold joinA at hr
  rcases List.mem_append.1 hr with h1 | h1
  · exact ho r (List.mem_of_mem_take h1)
  · rcases List.mem_cons.1 h1 with rfl | h2
    · exact okR_both (ho _ (getD_mem (by omega))) (ho _ (getD_mem (by omega)))
    · exact ho r (List.mem_of_mem_drop h2)
theorem area_bounds {c : R} (h : c.small) : 0 ≤ c.w * c.h ∧ c.w * c.h ≤ 1000000 := by
  obtain ⟨_, _, ⟨h1, h2⟩, ⟨h3, h4⟩⟩ := h
  refine ⟨Int.mul_nonneg h1 h3, ?_⟩
  have := Int.mul_le_mul h2 h4 h3 (by omega)
  omega

end Go.Proofs.YtmmcadbkmfjcbaaDoor
