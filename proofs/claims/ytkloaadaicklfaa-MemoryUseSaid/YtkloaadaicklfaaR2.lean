/-
  The reference memory: Used, List and Same.
-/
import Derived.Test.YtkloaadaicklfaaR1
namespace Go.Proofs.Ytkloaadaicklfaa
open Go.RowKit

theorem KeysAt.snoc' {w : World} {base n : Nat} {v : Value} {ks : List Own} {o : Own} (h : w.ownsRow base 34 4 v n (keyCells ks ++ keyCells [o])) (hn : n = ks.length + 1) : KeysAt w base v (ks ++ [o]) := by
  subst hn; exact KeysAt.snoc h
theorem nth_split {α : Type} {xs : List α} {k : Nat} (h : k < xs.length) : ∃ y a1 a2, xs = a1 ++ y :: a2 ∧ a1.length = k :=
  ⟨xs[k], xs.take k, xs.drop (k + 1), by rw [List.getElem_cons_drop, List.take_append_drop], by rw [List.length_take]; omega⟩

theorem rused_nil (w : World) : Calls Try.prog 24 #[.pointer none] w fun e w' => e = .returned (.int .i64 0) ∧ w = w' := by
  go_enter Try.func24, Try.ntmps24
  go_wp2
  go_ret
  exact ⟨rfl, rfl⟩

set_option maxHeartbeats 1000000 in
theorem rused_walk {w : World} {br : Nat} {B : Int} {v : Value} {xs : List Kept} (h : RRep w br B v xs) (hlen : xs.length ≤ 1000000) (hs : ∀ x ∈ xs, 0 ≤ x.size ∧ x.size ≤ 65536) (hu : usedOf xs ≤ 1073741824) :
    Calls Try.prog 24 #[ptr br] w fun e w' => e = .returned (.int .i64 (usedOf xs)) ∧ w = w' := by
  have c2 := h.c2
  obtain ⟨rfl, rfl⟩ | ⟨g, cap, hv, hcap, hmax⟩ := h.shape
  · go_enter Try.func24, Try.ntmps24
    go_wp2
    refine wp_loop_rounds 1 ?_
    rw [rounds_succ]
    go_wp2
    go_ret
    exact ⟨rfl, rfl⟩
  obtain ⟨n, HN⟩ : ∃ n, Hid (xs.length = n) := ⟨_, rfl⟩
  rw [HN.out] at hv hcap hlen
  subst hv
  unfold maxLen at hmax
  have hpos : ∀ ys : List Kept, (∀ x ∈ ys, 0 ≤ x.size ∧ x.size ≤ 65536) → 0 ≤ usedOf ys := by
    intro ys
    induction ys with
    | nil => intro _; simp [usedOf]
    | cons y ys ih => intro hh; rw [usedOf_cons]; have := ih fun x hx => hh x (by simp [hx]); have := hh y (by simp); omega
  have HU : Hid (∀ ys : List Kept, (∀ x ∈ ys, 0 ≤ x.size ∧ x.size ≤ 65536) → 0 ≤ usedOf ys) := hpos
  clear hpos
  go_enter Try.func24, Try.ntmps24
  go_wp2
  go_loop [3, 4] (fun s i => ∃ k : Nat, i = .int .i64 k ∧ k ≤ n ∧ s = .int .i64 (usedOf (xs.take k))) (fun _ i => n - (intOf i).toNat)
  case atStart => exact ⟨0, rfl, Nat.zero_le _, rfl⟩
  case round =>
    obtain ⟨k, rfl, hk, rfl⟩ := hrel
    by_cases hkn : k < n
    · obtain ⟨y, a1, a2, hy, hyl⟩ := nth_split (xs := xs) (k := k) (by rw [HN.out]; exact hkn)
      have hcells := h.list
      rw [hy] at hcells
      obtain ⟨_, _, _, _, y4, _⟩ := kept_cells hcells
      rw [hyl] at y4
      have t1 : xs.take k = a1 := by rw [hy, ← hyl, List.take_left]
      have t2 : xs.take (k + 1) = a1 ++ [y] := by rw [hy, show k + 1 = (a1 ++ [y]).length from by simp [hyl], show a1 ++ y :: a2 = (a1 ++ [y]) ++ a2 from by simp, List.take_left]
      have e1 : usedOf (a1 ++ [y]) = usedOf a1 + y.size := by simp [usedOf]
      have e2 : usedOf xs = usedOf a1 + (y.size + usedOf a2) := by rw [hy, usedOf_append, usedOf_cons]
      have q1 := HU.out a1 (fun x hx => hs x (by rw [hy]; simp [hx]))
      have q2 := HU.out a2 (fun x hx => hs x (by rw [hy]; simp [hx]))
      have q3 := hs y (by rw [hy]; simp)
      rw [t1]
      have b1 : usedOf a1 ≤ 1073741824 := by omega
      have b2 : usedOf a1 + y.size ≤ 1073741824 := by omega
      have E1 := toHid e1
      have T2 := toHid t2
      obtain ⟨q4, q5⟩ := q3
      clear e1 e2 t1 t2 hcells hy
      go_wp2
      go_round
      case rel => exact ⟨k + 1, by go_num, by omega, by rw [T2.out, E1.out]⟩
      case measure => simp [intOf]; omega
    · have : k = n := by omega
      subst this
      go_wp2
      go_ret
      exact ⟨by rw [← HN.out, List.take_length]; rfl, rfl⟩

theorem rlist_nil (w : World) : Calls Try.prog 25 #[.pointer none] w fun e w' => e = .returned (.slice none 0 0) ∧ w = w' := by
  go_enter Try.func25, Try.ntmps25
  go_wp2
  go_ret
  exact ⟨rfl, rfl⟩

set_option maxHeartbeats 1000000 in
theorem rlist_walk {w : World} {br : Nat} {B : Int} {v : Value} {xs : List Kept} (h : RRep w br B v xs) (hlen : xs.length ≤ 1000000) :
    Calls Try.prog 25 #[ptr br] w fun e w' => ∃ u, e = .returned u ∧ KeysAt w' w.heap.size u (xs.map (·.key)) ∧ Ext Nope w w' := by
  obtain ⟨i0, hi, hz0, hz1, hz2⟩ := info_parts info34
  obtain ⟨rfl, rfl⟩ | ⟨g, cap, hv, hcap, hmax⟩ := h.shape
  · have c2 := h.c2
    go_enter Try.func25, Try.ntmps25
    go_wp2
    refine wp_loop_rounds 1 ?_
    rw [rounds_succ]
    go_wp2
    go_ret
    exact ⟨_, rfl, World.ownsRow_nil _ _ _ _, Ext.refl _ _⟩
  obtain ⟨n, HN⟩ : ∃ n, Hid (xs.length = n) := ⟨_, rfl⟩
  rw [HN.out] at hv hcap hlen
  subst hv
  unfold maxLen at hmax
  go_enter Try.func25, Try.ntmps25
  go_wp2
  go_loopw [3, 4] (fun s i wr => ∃ k : Nat, i = .int .i64 k ∧ k ≤ n ∧ KeysAt wr w.heap.size s ((xs.take k).map (·.key)) ∧ Ext Nope w wr) (fun _ i _ => n - (intOf i).toNat)
  case atStart => exact ⟨0, rfl, Nat.zero_le _, World.ownsRow_nil _ _ _ _, Ext.refl _ _⟩
  case round =>
    obtain ⟨k, rfl, hk, hks, hE⟩ := hrel
    have hr := h.ext hE (fun x => x) (fun _ _ x => x)
    have c2 := hr.c2
    by_cases hkn : k < n
    · obtain ⟨y, a1, a2, hy, hyl⟩ := nth_split (xs := xs) (k := k) (by rw [HN.out]; exact hkn)
      have hcells := hr.list
      rw [hy] at hcells
      obtain ⟨y0, y1, y2, y3, _, _⟩ := kept_cells hcells
      rw [hyl] at y0 y1 y2 y3
      have t1 : (xs.take k).map (·.key) = a1.map (·.key) := by rw [hy, ← hyl, List.take_left]
      have t2 : (xs.take (k + 1)).map (·.key) = a1.map (·.key) ++ [y.key] := by rw [hy, show k + 1 = (a1 ++ [y]).length from by simp [hyl], show a1 ++ y :: a2 = (a1 ++ [y]) ++ a2 from by simp, List.take_left]; simp
      rw [t1] at hks
      have hown : wr.ownsRow w.heap.size 34 4 _ (a1.map (·.key)).length (keyCells (a1.map (·.key))) := hks
      have hl1 : a1.length + 1 ≤ 1000000 := by omega
      have T2 := toHid t2
      have HY := toHid hyl
      have hglt := World.block_lt_of_cell? _ _ y0
      clear t1 t2 hcells hy hr hks hyl
      go_wp2_with (first | (at_builtin; refine wpList_append_own _ rfl (.tmp 16) (.tmp 25) 43 rfl w.heap.size 34 i0 _ 4 32 Try.underlying43 hi hz0 hz1 hz2 rfl (by decide) _ _ _ rfl (hown.alloc _) ⟨wr.heap.size, 0, none⟩ 1 1 (keyCells [y.key]) rfl rfl ?c1 ?c2 ?c3 ?c4 ?c5 ?_) | go_in)
      case c1 => intro j u hj; first | exact keyCells_at (heap_alloc_new wr _) j u hj | (rw [keyCells_one] at hj; exact hj)
      case c2 => exact keyCells_oneCell _
      case c3 => unfold maxLen; first | omega | (rw [List.length_map]; omega)
      case c4 => first | omega | (rw [List.length_map]; omega)
      case c5 => have := hE.size; simp; omega
      intro v' w1 hown' hgrow _
      have hE1 : Ext Nope w w1 := (hE.alloc _).grown hgrow fun k1 hk1 hl => absurd (hown.lt k1 hk1).1 (by omega)
      have HO : KeysAt w1 w.heap.size v' (a1.map (·.key) ++ [y.key]) := KeysAt.snoc' hown' (by simp)
      clear hown' hgrow hown y0 y1 y2 y3 c2
      go_wp2
      go_roundw
      case rel => exact ⟨k + 1, by go_num, by omega, by rw [T2.out]; exact HO, hE1⟩
      case measure => simp [intOf]; omega
    · have hkk : k = n := by omega
      subst hkk
      clear hr
      go_wp2
      go_ret
      exact ⟨_, rfl, by rw [← HN.out, List.take_length] at hks; exact hks, hE⟩

theorem key_cells {w : World} {base g n cap : Nat} {ks a b : List Own} {o : Own} (h : KeysAt w base (.slice (some ⟨g, 0, none⟩) n cap) ks) (hk : ks = a ++ o :: b) :
    w.cell? ⟨g, a.length * 4, none⟩ = some (.int .i64 o.f) ∧ w.cell? ⟨g, a.length * 4 + 1, none⟩ = some (.int .i64 o.k) ∧ w.cell? ⟨g, a.length * 4 + 2, none⟩ = some (.int .i64 o.n) ∧ w.cell? ⟨g, a.length * 4 + 3, none⟩ = some (.int .i64 o.r) := by
  subst hk
  have hc : ∀ j u, j < 4 → (keyCells [o])[j]? = some u → w.cell? ⟨g, a.length * 4 + j, none⟩ = some u := by
    intro j u hj hu
    obtain ⟨_, ⟨hv, _⟩ | ⟨g', cap', cur, hv, _, hg, _, _, _, ht⟩⟩ := h
    · simp at hv
    · simp only [Value.slice.injEq, Option.some.injEq, Addr.mk.injEq, and_true] at hv
      obtain ⟨rfl, _, rfl⟩ := hv
      have e : (keyCells (a ++ o :: b))[a.length * 4 + j]? = some u := by
        rw [keyCells_append, List.getElem?_append_right (by rw [keyCells_length]; omega), keyCells_length, Nat.add_sub_cancel_left]
        rw [show o :: b = [o] ++ b from rfl, keyCells_append, List.getElem?_append_left (by rw [keyCells_length]; simpa using hj)]
        exact hu
      rw [← ht, List.getElem?_take] at e
      split at e
      · rw [show (⟨g, a.length * 4 + j, none⟩ : Addr) = at_ g (a.length * 4 + j) from rfl, cell_of_blk hg, ← Array.getElem?_toList]; exact e
      · simp at e
  exact ⟨hc 0 _ (by omega) rfl, hc 1 _ (by omega) rfl, hc 2 _ (by omega) rfl, hc 3 _ (by omega) rfl⟩
theorem take_at {α : Type} {xs a b : List α} {y : α} {k : Nat} (h : xs = a ++ y :: b) (hk : a.length = k) : xs.take (k + 1) = xs.take k ++ [y] := by
  subst h hk
  rw [List.take_left, show a.length + 1 = (a ++ [y]).length from by simp, show a ++ y :: b = (a ++ [y]) ++ b from by simp, List.take_left]

set_option maxHeartbeats 1000000 in
theorem same_walk {w : World} {p q : Value} {bp bq : Nat} {ks ls : List Own} (hp : KeysAt w bp p ks) (hq : KeysAt w bq q ls) (hk : ks.length ≤ 1000000) (hl : ls.length ≤ 1000000) :
    Calls Try.prog 20 #[p, q] w fun e w' => e = .returned (.bool (decide (ks = ls))) ∧ Ext Nope w w' := by
  obtain ⟨n, HN⟩ : ∃ n, Hid (ks.length = n) := ⟨_, rfl⟩
  obtain ⟨m, HM⟩ : ∃ m, Hid (ls.length = m) := ⟨_, rfl⟩
  rw [HN.out] at hk
  rw [HM.out] at hl
  obtain ⟨a, ca, hva⟩ : ∃ a ca, p = .slice a n ca := by
    obtain ⟨_, ⟨hv, h0⟩ | ⟨g, cap, cur, hv, _⟩⟩ := hp
    · exact ⟨none, 0, by rw [hv, ← HN.out, h0]⟩
    · exact ⟨_, cap, by rw [hv, HN.out]⟩
  obtain ⟨b, cb, hvb⟩ : ∃ b cb, q = .slice b m cb := by
    obtain ⟨_, ⟨hv, h0⟩ | ⟨g, cap, cur, hv, _⟩⟩ := hq
    · exact ⟨none, 0, by rw [hv, ← HM.out, h0]⟩
    · exact ⟨_, cap, by rw [hv, HM.out]⟩
  by_cases hnm : n = m
  · subst hnm
    rcases Nat.eq_zero_or_pos n with h0 | h0
    · have e1 : ks = [] := List.eq_nil_of_length_eq_zero (by rw [HN.out]; exact h0)
      have e2 : ls = [] := List.eq_nil_of_length_eq_zero (by rw [HM.out]; exact h0)
      have e3 : ks = ls := by rw [e1, e2]
      clear hp hq
      subst h0 hva hvb
      go_enter Try.func20, Try.ntmps20
      go_wp2
      refine wp_loop_rounds 1 ?_
      rw [rounds_succ]
      go_wp2
      go_ret
      exact ⟨by rw [decide_eq_true e3]; rfl, Ext.refl _ _⟩
    obtain ⟨g1, hg1⟩ : ∃ g, a = some ⟨g, 0, none⟩ := by
      obtain ⟨_, ⟨hv, h00⟩ | ⟨g, cap, cur, hv, _⟩⟩ := hp
      · rw [← HN.out] at h0; omega
      · rw [hva] at hv; injection hv with e1; exact ⟨g, e1⟩
    obtain ⟨g2, hg2⟩ : ∃ g, b = some ⟨g, 0, none⟩ := by
      obtain ⟨_, ⟨hv, h00⟩ | ⟨g, cap, cur, hv, _⟩⟩ := hq
      · rw [← HM.out] at h0; omega
      · rw [hvb] at hv; injection hv with e1; exact ⟨g, e1⟩
    subst hg1 hg2
    subst hva hvb
    clear h0
    go_enter Try.func20, Try.ntmps20
    go_wp2
    go_loopw [5] (fun i wr => ∃ k : Nat, i = .int .i64 k ∧ k ≤ n ∧ ks.take k = ls.take k ∧ Ext Nope w wr) (fun i _ => n - (intOf i).toNat)
    case atStart => exact ⟨0, rfl, Nat.zero_le _, rfl, Ext.refl _ _⟩
    case round =>
      obtain ⟨k, rfl, hk1, hkt, hE⟩ := hrel
      have HT := toHid hkt
      clear hkt
      by_cases hkn : k < n
      · obtain ⟨y, a1, a2, hy, hyl⟩ := nth_split (xs := ks) (k := k) (by rw [HN.out]; exact hkn)
        obtain ⟨z, b1, b2, hz, hzl⟩ := nth_split (xs := ls) (k := k) (by rw [HM.out]; exact hkn)
        have hp1 := hp.ext hE (fun _ _ x => x)
        have hq1 := hq.ext hE (fun _ _ x => x)
        obtain ⟨p0, p1, p2, p3⟩ := key_cells hp1 hy
        obtain ⟨q0, q1, q2, q3⟩ := key_cells hq1 hz
        rw [hyl] at p0 p1 p2 p3
        rw [hzl] at q0 q1 q2 q3
        have heq : ∀ W, (Op.equalIn 10000 34 (.agg #[.int .i64 y.f, .int .i64 y.k, .int .i64 y.n, .int .i64 y.r]) (.agg #[.int .i64 z.f, .int .i64 z.k, .int .i64 z.n, .int .i64 z.r])).run Try.prog W = .ok (decide (y = z)) W := fun W => eq34 y z W
        have ty : ks.take (k + 1) = ks.take k ++ [y] := take_at hy hyl
        have tz : ls.take (k + 1) = ls.take k ++ [z] := take_at hz hzl
        have TY := toHid ty
        have TZ := toHid tz
        clear hp1 hq1 hy hz ty tz hyl hzl
        by_cases hyz : y = z
        · replace heq := fun W => (heq W).trans (by rw [decide_eq_true hyz])
          have HYZ := toHid hyz
          clear hyz
          go_wp2_with fail
          go_quiet (fail)
          go_wp2
          go_roundw
          case rel => exact ⟨k + 1, by go_num, by omega, by rw [TY.out, TZ.out, HT.out, HYZ.out], hE.drewN _⟩
          case measure => simp [intOf]; omega
        · replace heq := fun W => (heq W).trans (by rw [decide_eq_false hyz])
          have hne : ks ≠ ls := fun e => by
            have := TY.out
            rw [e, TZ.out] at this
            have := List.append_inj_right' this rfl
            simp only [List.cons.injEq, and_true] at this
            exact hyz this.symm
          clear hyz
          go_wp2_with fail
          go_quiet (fail)
          go_wp2
          go_ret
          exact ⟨by rw [decide_eq_false hne]; rfl, hE.drewN _⟩
      · have hkk : k = n := by omega
        subst hkk
        have e3 : ks = ls := by
          have := HT.out
          rw [← HN.out, List.take_length] at this
          rw [this, HN.out, ← HM.out, List.take_length]
        go_wp2
        go_ret
        exact ⟨by rw [decide_eq_true e3]; rfl, hE⟩
  · have hne : ks ≠ ls := fun e => hnm (by rw [← HN.out, ← HM.out, e])
    have h1 : ((n : Int) == (m : Int)) = false := by simp; omega
    have h2 : ((n : Int) != (m : Int)) = true := by simp [bne, h1]
    clear hp hq
    subst hva hvb
    go_enter Try.func20, Try.ntmps20
    go_wp2
    go_ret
    exact ⟨by rw [decide_eq_false hne]; rfl, Ext.refl _ _⟩

end Go.Proofs.Ytkloaadaicklfaa
