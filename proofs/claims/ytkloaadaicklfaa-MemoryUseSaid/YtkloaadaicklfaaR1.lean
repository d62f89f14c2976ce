/-
  The reference memory: find and New.
-/
import Derived.Test.YtkloaadaicklfaaR0
namespace Go.Proofs.Ytkloaadaicklfaa
open Go.RowKit

structure RRep (w : World) (br : Nat) (B : Int) (v : Value) (xs : List Kept) : Prop where
  self : w.heap[br]? = some (.cells #[.bool true, .int .i64 B, v] 53 (0, 0))
  list : KeptAt w 0 v xs
  apart : v.ownBlock ≠ some br

theorem RRep.ext {w w' : World} {br : Nat} {B : Int} {v : Value} {xs : List Kept} (h : RRep w br B v xs) {S : Nat → Prop} (he : Ext S w w') (h1 : ¬ S br) (h2 : ∀ k, v.ownBlock = some k → ¬ S k) : RRep w' br B v xs :=
  ⟨(he.block br (lt_of_heap h.self) h1).trans h.self, h.list.ext he h2, h.apart⟩
theorem RRep.c2 {w : World} {br : Nat} {B : Int} {v : Value} {xs : List Kept} (h : RRep w br B v xs) : w.cell? ⟨br, 2, none⟩ = some v := by
  rw [show (⟨br, 2, none⟩ : Addr) = at_ br 2 from rfl, cell_of_blk h.self]; rfl
theorem RRep.shape {w : World} {br : Nat} {B : Int} {v : Value} {xs : List Kept} (h : RRep w br B v xs) : (v = .slice none 0 0 ∧ xs = []) ∨ ∃ g cap, v = .slice (some ⟨g, 0, none⟩) xs.length cap ∧ xs.length ≤ cap ∧ cap ≤ maxLen := by
  obtain ⟨_, ⟨hv, h0⟩ | ⟨g, cap, cur, hv, _, hg, hn, hm, _⟩⟩ := h.list
  · exact .inl ⟨hv, List.eq_nil_of_length_eq_zero h0⟩
  · exact .inr ⟨g, cap, hv, hn, hm⟩

/-- The cells of the k-th element. -/
theorem kept_cells {w : World} {base g n cap : Nat} {a b : List Kept} {x : Kept} (h : KeptAt w base (.slice (some ⟨g, 0, none⟩) n cap) (a ++ x :: b)) :
    w.cell? ⟨g, a.length * 6, none⟩ = some (.int .i64 x.key.f) ∧ w.cell? ⟨g, a.length * 6 + 1, none⟩ = some (.int .i64 x.key.k) ∧ w.cell? ⟨g, a.length * 6 + 2, none⟩ = some (.int .i64 x.key.n) ∧
    w.cell? ⟨g, a.length * 6 + 3, none⟩ = some (.int .i64 x.key.r) ∧ w.cell? ⟨g, a.length * 6 + 4, none⟩ = some (.int .i64 x.size) ∧ w.cell? ⟨g, a.length * 6 + 5, none⟩ = some (.bool x.pinned) := by
  have hc : ∀ j u, j < 6 → (keptCells [x])[j]? = some u → w.cell? ⟨g, a.length * 6 + j, none⟩ = some u := by
    intro j u hj hu
    refine kept_cell h ?_
    rw [keptCells_append, List.getElem?_append_right (by rw [keptCells_length]; omega), keptCells_length, Nat.add_sub_cancel_left, keptCells_cons, List.getElem?_append_left (by simpa using hj)]
    simpa [keptCells] using hu
  exact ⟨hc 0 _ (by omega) rfl, hc 1 _ (by omega) rfl, hc 2 _ (by omega) rfl, hc 3 _ (by omega) rfl, hc 4 _ (by omega) rfl, hc 5 _ (by omega) rfl⟩

theorem split_at {a a1 a2 b : List Kept} {x y : Kept} (h : a ++ x :: b = a1 ++ y :: a2) : (a1.length < a.length → y ∈ a) ∧ (a1.length = a.length → y = x) := by
  have e1 : (a1 ++ y :: a2)[a1.length]? = some y := by simp
  rw [← h] at e1
  constructor
  · intro hl
    rw [List.getElem?_append_left hl] at e1
    exact List.mem_of_getElem? e1
  · intro hl
    rw [hl] at e1
    simpa using e1.symm

set_option maxHeartbeats 1000000 in
theorem rfind_nil (o : Own) (w : World) : Calls Try.prog 35 #[.pointer none, o.val] w fun e w' => e = .returned (.int .i64 (-1)) ∧ Ext Nope w w' := by
  go_enter Try.func35, Try.ntmps35
  go_wp2
  go_ret
  exact ⟨rfl, (Ext.refl _ _).alloc _⟩

set_option maxHeartbeats 1000000 in
theorem rfind_hit {w : World} {br : Nat} {B : Int} {v : Value} {a b : List Kept} {x : Kept} (h : RRep w br B v (a ++ x :: b)) (o : Own) (hx : x.key = o) (ha : ∀ y ∈ a, y.key ≠ o) (hlen : (a ++ x :: b).length ≤ 1000000) :
    Calls Try.prog 35 #[ptr br, o.val] w fun e w' => e = .returned (.int .i64 a.length) ∧ Ext Nope w w' := by
  obtain ⟨_, hnil⟩ | ⟨g, cap, hv, hcap, hmax⟩ := h.shape
  · simp at hnil
  have hlt := lt_of_heap h.self
  have hal : a.length < (a ++ x :: b).length := by simp
  obtain ⟨n, HN⟩ : ∃ n, Hid ((a ++ x :: b).length = n) := ⟨_, rfl⟩
  rw [HN.out] at hv hcap hlen hal
  subst hv
  unfold maxLen at hmax
  go_enter Try.func35, Try.ntmps35
  go_wp2
  go_loopw [5] (fun i wr => ∃ k : Nat, i = .int .i64 k ∧ k ≤ a.length ∧ Ext Nope (w.alloc (.cells (ownCells o) 34)) wr) (fun i _ => a.length - (intOf i).toNat)
  case atStart => exact ⟨0, rfl, Nat.zero_le _, Ext.refl _ _⟩
  case round =>
    obtain ⟨k, rfl, hk, hE⟩ := hrel
    have hE' := ext0 ((Ext.refl Nope w).alloc (.cells (ownCells o) 34)) hE
    have hr := h.ext hE' (fun x => x) (fun _ _ x => x)
    have c2 := hr.c2
    have hb : BRow wr w.heap.size o := (hE.block _ (by simp) (fun x => x)).trans (heap_alloc_new w _)
    obtain ⟨b0, b1, b2, b3⟩ := hb.cells
    have hkn : k < n := by omega
    obtain ⟨y, a1, a2, hy, hyl⟩ : ∃ y a1 a2, a ++ x :: b = a1 ++ y :: a2 ∧ a1.length = k := by
      have hk2 : k < (a ++ x :: b).length := by rw [HN.out]; exact hkn
      exact ⟨(a ++ x :: b)[k], (a ++ x :: b).take k, (a ++ x :: b).drop (k + 1), by rw [List.getElem_cons_drop, List.take_append_drop], by rw [List.length_take]; omega⟩
    have hcells := hr.list
    rw [hy] at hcells
    obtain ⟨y0, y1, y2, y3, _, _⟩ := kept_cells hcells
    rw [hyl] at y0 y1 y2 y3
    have heq : ∀ W, (Op.equalIn 10000 34 (.agg #[.int .i64 y.key.f, .int .i64 y.key.k, .int .i64 y.key.n, .int .i64 y.key.r]) (.agg #[.int .i64 o.f, .int .i64 o.k, .int .i64 o.n, .int .i64 o.r])).run Try.prog W = .ok (decide (y.key = o)) W := fun W => eq34 y.key o W
    have hp := split_at hy
    rw [hyl] at hp
    clear hcells hr hb
    by_cases hyo : y.key = o
    · have hka : k = a.length := by
        rcases Nat.lt_trichotomy k a.length with hl | hl | hl
        · exact absurd hyo (ha y (hp.1 hl))
        · exact hl
        · omega
      have HKA := toHid hka
      replace heq := fun W => (heq W).trans (by rw [decide_eq_true hyo])
      clear hka hp hyo hy
      go_wp2_with fail
      go_quiet (fail)
      go_wp2
      go_ret
      exact ⟨by first | rfl | (rw [HKA.out]; rfl), hE'.drewN _⟩
    · have hka : k < a.length := by
        rcases Nat.lt_trichotomy k a.length with hl | hl | hl
        · exact hl
        · exact absurd (by rw [hp.2 hl]; exact hx) hyo
        · omega
      replace heq := fun W => (heq W).trans (by rw [decide_eq_false hyo])
      clear hp hyo hy
      go_wp2_with fail
      go_quiet (fail)
      go_wp2
      go_roundw
      case rel => exact ⟨k + 1, by go_num, by omega, hE.drewN _⟩
      case measure => simp [intOf]; omega

set_option maxHeartbeats 1000000 in
theorem rfind_miss {w : World} {br : Nat} {B : Int} {v : Value} {xs : List Kept} (h : RRep w br B v xs) (o : Own) (ha : ∀ y ∈ xs, y.key ≠ o) (hlen : xs.length ≤ 1000000) :
    Calls Try.prog 35 #[ptr br, o.val] w fun e w' => e = .returned (.int .i64 (-1)) ∧ Ext Nope w w' := by
  have hlt := lt_of_heap h.self
  obtain ⟨rfl, rfl⟩ | ⟨g, cap, hv, hcap, hmax⟩ := h.shape
  · have c2 := h.c2
    go_enter Try.func35, Try.ntmps35
    go_wp2
    refine wp_loop_rounds 1 ?_
    rw [rounds_succ]
    go_wp2
    go_ret
    exact ⟨rfl, (Ext.refl _ _).alloc _⟩
  obtain ⟨n, HN⟩ : ∃ n, Hid (xs.length = n) := ⟨_, rfl⟩
  rw [HN.out] at hv hcap hlen
  subst hv
  unfold maxLen at hmax
  go_enter Try.func35, Try.ntmps35
  go_wp2
  go_loopw [5] (fun i wr => ∃ k : Nat, i = .int .i64 k ∧ k ≤ n ∧ Ext Nope (w.alloc (.cells (ownCells o) 34)) wr) (fun i _ => n - (intOf i).toNat)
  case atStart => exact ⟨0, rfl, Nat.zero_le _, Ext.refl _ _⟩
  case round =>
    obtain ⟨k, rfl, hk, hE⟩ := hrel
    have hE' := ext0 ((Ext.refl Nope w).alloc (.cells (ownCells o) 34)) hE
    have hr := h.ext hE' (fun x => x) (fun _ _ x => x)
    have c2 := hr.c2
    have hb : BRow wr w.heap.size o := (hE.block _ (by simp) (fun x => x)).trans (heap_alloc_new w _)
    obtain ⟨b0, b1, b2, b3⟩ := hb.cells
    by_cases hkn : k < n
    · obtain ⟨y, a1, a2, hy, hyl⟩ : ∃ y a1 a2, xs = a1 ++ y :: a2 ∧ a1.length = k := by
        have hk2 : k < xs.length := by rw [HN.out]; exact hkn
        exact ⟨xs[k], xs.take k, xs.drop (k + 1), by rw [List.getElem_cons_drop, List.take_append_drop], by rw [List.length_take]; omega⟩
      have hcells := hr.list
      rw [hy] at hcells
      obtain ⟨y0, y1, y2, y3, _, _⟩ := kept_cells hcells
      rw [hyl] at y0 y1 y2 y3
      have heq : ∀ W, (Op.equalIn 10000 34 (.agg #[.int .i64 y.key.f, .int .i64 y.key.k, .int .i64 y.key.n, .int .i64 y.key.r]) (.agg #[.int .i64 o.f, .int .i64 o.k, .int .i64 o.n, .int .i64 o.r])).run Try.prog W = .ok (decide (y.key = o)) W := fun W => eq34 y.key o W
      have hyo : y.key ≠ o := ha y (by rw [hy]; simp)
      replace heq := fun W => (heq W).trans (by rw [decide_eq_false hyo])
      clear hcells hr hb hy hyo
      go_wp2_with fail
      go_quiet (fail)
      go_wp2
      go_roundw
      case rel => exact ⟨k + 1, by go_num, by omega, hE.drewN _⟩
      case measure => simp [intOf]; omega
    · go_wp2
      go_ret
      exact ⟨rfl, hE'⟩

set_option maxHeartbeats 1000000 in
theorem rnew_bad (n : Int) (w : World) (h : n < 0 ∨ 1073741824 < n) : Calls Try.prog 22 #[.int .i64 n] w fun e w' => e = .returned (.pointer none) ∧ w = w' := by
  by_cases h1 : n < 0
  · go_enter Try.func22, Try.ntmps22
    go_wp2
    go_ret
    exact ⟨rfl, rfl⟩
  · have h2 : 1073741824 < n := by omega
    go_enter Try.func22, Try.ntmps22
    go_wp2
    go_ret
    exact ⟨rfl, rfl⟩

set_option maxHeartbeats 1000000 in
theorem rnew_good (n : Int) (w : World) (h1 : 0 ≤ n) (h2 : n ≤ 1073741824) : Calls Try.prog 22 #[.int .i64 n] w fun e w' => e = .returned (ptr w.heap.size) ∧ RRep w' w.heap.size n (.slice none 0 0) [] ∧ Ext Nope w w' := by
  go_enter Try.func22, Try.ntmps22
  go_wp2
  go_ret
  exact ⟨rfl, ⟨heap_alloc_new _ _, World.ownsRow_nil _ _ _ _, by simp [Value.ownBlock]⟩, (Ext.refl _ _).alloc _⟩

end Go.Proofs.Ytkloaadaicklfaa
