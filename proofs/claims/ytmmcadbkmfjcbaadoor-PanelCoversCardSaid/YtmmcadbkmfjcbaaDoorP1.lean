/-
  A panel and the reference's do the same.
-/
import Derived.Test.YtmmcadbkmfjcbaaDoorE9
namespace Go.Proofs.YtmmcadbkmfjcbaaDoor

structure Rel (p : Pan) (r : Ref) : Prop where
  w : r.w = p.w
  rows : r.rows = p.rows
  many : r.many = p.many
  left : r.left = if p.failing then max p.left 0 else -1
theorem rel_count {p : Pan} {r : Ref} (h : Rel p r) (n : Nat) : countA (decide (0 ≤ r.left)) r.left n = countA p.failing p.left n := by
  unfold countA
  rw [h.left]
  cases hf : p.failing with
  | false => simp
  | true =>
    have h0 : (0 : Int) ≤ max p.left 0 := by omega
    simp only [if_true, decide_eq_true h0]
    congr 1
    omega
theorem valid_pos {pw ph : Nat} {c : R} {xs : List Nat} (h : validA pw ph c xs = true) : 1 ≤ xs.length := by
  unfold validA at h
  simp only [Bool.and_eq_true, decide_eq_true_eq] at h
  obtain ⟨h1, h2, _⟩ := h
  unfold inB at h1
  have := of_decide_eq_true h1
  omega
theorem write_rel {p : Pan} {r : Ref} {c : R} {xs : List Nat} (h : Rel p r) (hw : p.w ≠ 0) (_hl : p.failing = true → -1 ≤ p.left) : (rwriteA r c xs).1 = (writeA p c xs).1 ∧ Rel (writeA p c xs).2 (rwriteA r c xs).2 := by
  have hc := rel_count h xs.length
  unfold rwriteA writeA
  rw [h.w, h.rows]
  by_cases hv : validA p.w p.rows.length c xs = true
  · have hpos := valid_pos hv
    rw [if_pos ⟨hw, hv⟩, if_pos hv, hc]
    by_cases hn : countA p.failing p.left xs.length = xs.length
    · rw [if_pos hn, if_pos hn]
      refine ⟨rfl, ⟨rfl, rfl, by simp only [h.many], ?_⟩⟩
      simp only
      rw [h.left]
      cases hf : p.failing with
      | false => simp
      | true =>
        unfold countA at hn
        rw [hf] at hn
        simp only [if_true] at hn ⊢
        have h0 : (0 : Int) ≤ max p.left 0 := by omega
        rw [if_pos h0]
        omega
    · rw [if_neg hn, if_neg hn]
      refine ⟨rfl, ⟨rfl, rfl, by simp only [h.many], ?_⟩⟩
      simp only
      unfold countA at hn
      cases hf : p.failing with
      | false => rw [hf] at hn; simp at hn
      | true => simp only [if_true]; omega
  · rw [if_neg (fun z => hv z.2), if_neg hv]
    exact ⟨rfl, h⟩
theorem fail_rel {p : Pan} {r : Ref} (h : Rel p r) (hw : p.w ≠ 0) (n : Int) : Rel (failA p n) (rfailA r n) := by
  unfold failA rfailA
  rw [h.w, if_pos (by omega), if_pos hw]
  refine ⟨rfl, h.rows, h.many, ?_⟩
  simp only [mxI_eq]
  by_cases hn : 0 ≤ n
  · simp [hn]; omega
  · simp [hn]; omega
theorem write_ok {p : Pan} {c : R} {xs : List Nat} {M : Nat} (h : PanOK p) (hm : p.many ≤ M) (hM : M + 1 ≤ 1000000) : PanOK (writeA p c xs).2 ∧ (writeA p c xs).2.many ≤ M + 1 ∧ (writeA p c xs).2.w = p.w ∧ (writeA p c xs).2.rows.length = p.rows.length := by
  unfold writeA
  split
  · rename_i hv
    have hin : inB c p.w p.rows.length = true := by unfold validA at hv; simp only [Bool.and_eq_true] at hv; exact hv.1
    obtain ⟨X, Y, W, H, hc, g1, g2, g3, g4⟩ := inB_nat hin
    have hall : ∀ x ∈ xs, x < 2 ^ c.w.toNat := by
      intro x hx
      unfold validA at hv
      simp only [Bool.and_eq_true] at hv
      have := List.all_eq_true.1 hv.2.2 x hx
      simpa using this
    have hxw : c.x.toNat + c.w.toNat ≤ 64 := by have := h.w; rw [hc]; simp only [Int.toNat_natCast]; omega
    have hu := fun k => putN_u64 (Y := c.y.toNat) hall h.u hxw k
    split
    · rename_i hn
      refine ⟨⟨h.w, by simp only [putN_length]; exact h.h, hu _, fun hf => ?_, ?_, ?_, by simp only; omega⟩, by simp only; omega, rfl, by simp only [putN_length]⟩
      · simp only at hf ⊢
        unfold countA at hn
        rw [hf] at hn
        simp only [if_true] at hn
        rw [if_pos hf]
        have := h.left hf
        omega
      · simp only
        unfold countA at hn
        have := h.l1
        split
        · rename_i hf
          rw [hf] at hn
          simp only [if_true] at hn
          have := h.left hf
          omega
        · exact h.l1
      · simp only
        have := h.l2
        split <;> omega
    · exact ⟨⟨h.w, by simp only [putN_length]; exact h.h, hu _, fun _ => by simp, by simp, by simp, by simp only; omega⟩, by simp only; omega, rfl, by simp only [putN_length]⟩
  · exact ⟨h, by show p.many ≤ M + 1; omega, rfl, rfl⟩
theorem fail_ok {p : Pan} {n : Int} (h : PanOK p) (h1 : -9223372036854775808 ≤ n) (h2 : n ≤ 9223372036854775807) : PanOK (failA p n) ∧ (failA p n).many = p.many ∧ (failA p n).w = p.w ∧ (failA p n).rows = p.rows := by
  unfold failA
  split
  · exact ⟨⟨h.w, h.h, h.u, fun hf => by simp at hf; simp only; omega, h1, h2, h.many⟩, rfl, rfl, rfl⟩
  · exact ⟨h, rfl, rfl, rfl⟩
theorem rel_ok {p : Pan} {r : Ref} (h : Rel p r) (ok : PanOK p) : RefOK r := by
  refine ⟨by rw [h.w]; exact ok.w, by rw [h.rows]; exact ok.h, by rw [h.rows]; exact ok.u, ?_, ?_, by rw [h.many]; exact ok.many⟩
  · rw [h.left]; split <;> omega
  · rw [h.left]; have := ok.l2; split <;> omega
end Go.Proofs.YtmmcadbkmfjcbaaDoor
