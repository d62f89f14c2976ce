/-
  The reference memory: Put with a size that is out of range.
-/
import Derived.Test.YtkloaadaicklfaaR4
namespace Go.Proofs.Ytkloaadaicklfaa
open Go.RowKit
attribute [local go_sem] alloc_drewN setCell_drewN

/-- What is kept under other keys. -/
def restK (o : Own) (xs : List Kept) : List Kept := xs.filter fun x => decide (x.key ≠ o)
theorem restK_snoc_ne {o : Own} (xs : List Kept) {x : Kept} (h : x.key ≠ o) : restK o (xs ++ [x]) = restK o xs ++ [x] := by simp [restK, h]
theorem restK_snoc_eq {o : Own} (xs : List Kept) {x : Kept} (h : x.key = o) : restK o (xs ++ [x]) = restK o xs := by simp [restK, h]

theorem sums_le {o : Own} : ∀ (ys : List Kept), (∀ x ∈ ys, 0 ≤ x.size ∧ x.size ≤ 65536) → 0 ≤ pinnedOf (restK o ys) ∧ pinnedOf (restK o ys) ≤ usedOf (restK o ys) ∧ usedOf (restK o ys) ≤ usedOf ys := by
  intro ys
  induction ys with
  | nil => intro _; simp [restK, pinnedOf, usedOf]
  | cons y ys ih =>
    intro h
    have h1 := ih fun x hx => h x (by simp [hx])
    have h2 := h y (by simp)
    by_cases e : y.key = o
    · have : restK o (y :: ys) = restK o ys := by simp [restK, e]
      rw [this, usedOf_cons]; omega
    · have : restK o (y :: ys) = y :: restK o ys := by simp [restK, e]
      rw [this, usedOf_cons, pinnedOf_cons, usedOf_cons]
      unfold pinOf
      split <;> omega
theorem usedOf_take_le {ys : List Kept} (h : ∀ x ∈ ys, 0 ≤ x.size ∧ x.size ≤ 65536) (k : Nat) : usedOf (ys.take k) ≤ usedOf ys := by
  have e : usedOf ys = usedOf (ys.take k) + usedOf (ys.drop k) := by rw [← usedOf_append, List.take_append_drop]
  have : ∀ zs : List Kept, (∀ x ∈ zs, 0 ≤ x.size ∧ x.size ≤ 65536) → 0 ≤ usedOf zs := by
    intro zs
    induction zs with
    | nil => intro _; simp [usedOf]
    | cons z zs ih => intro hh; rw [usedOf_cons]; have := ih fun x hx => hh x (by simp [hx]); have := hh z (by simp); omega
  have := this (ys.drop k) fun x hx => h x (List.mem_of_mem_drop hx)
  omega

theorem used_pos : ∀ {zs : List Kept}, (∀ x ∈ zs, 0 ≤ x.size ∧ x.size ≤ 65536) → 0 ≤ usedOf zs := by
  intro zs
  induction zs with
  | nil => intro _; simp [usedOf]
  | cons z zs ih => intro hh; rw [usedOf_cons]; have := ih fun x hx => hh x (by simp [hx]); have := hh z (by simp); omega
theorem psum0 {s pp : Int} {ys : List Kept} {y : Kept} (h : pp = s + pinnedOf ys) (hp : y.pinned = false) : pp = s + pinnedOf (ys ++ [y]) := by
  rw [pinnedOf_append, h]; simp [pinnedOf, pinOf, hp]
theorem psum1 {s pp : Int} {ys : List Kept} {y : Kept} (h : pp = s + pinnedOf ys) (hp : y.pinned = true) : pp + y.size = s + pinnedOf (ys ++ [y]) := by
  rw [pinnedOf_append, h]; simp [pinnedOf, pinOf, hp]; omega
theorem usum {s pp : Int} {ys : List Kept} {y : Kept} (h : pp = s + usedOf ys) : pp + y.size = s + usedOf (ys ++ [y]) := by
  rw [usedOf_append, h]; simp [usedOf]; omega

theorem RRep.gen {w : World} {br : Nat} {B : Int} {v : Value} {xs : List Kept} (h : RRep w br B v xs) : ∃ av cap, v = .slice av xs.length cap ∧ xs.length ≤ cap ∧ cap ≤ 9223372036854775807 ∧ (0 < xs.length → ∃ g, av = some ⟨g, 0, none⟩) := by
  obtain ⟨rfl, rfl⟩ | ⟨g, cap, hv, hcap, hmax⟩ := h.shape
  · exact ⟨none, 0, rfl, Nat.le_refl _, by omega, fun h => absurd h (by simp)⟩
  · exact ⟨_, cap, hv, hcap, by unfold maxLen at hmax; omega, fun _ => ⟨g, rfl⟩⟩
theorem RRep.c0 {w : World} {br : Nat} {B : Int} {v : Value} {xs : List Kept} (h : RRep w br B v xs) : w.cell? ⟨br, 0, none⟩ = some (.bool true) := by
  rw [show (⟨br, 0, none⟩ : Addr) = at_ br 0 from rfl, cell_of_blk h.self]; rfl
theorem RRep.c1 {w : World} {br : Nat} {B : Int} {v : Value} {xs : List Kept} (h : RRep w br B v xs) : w.cell? ⟨br, 1, none⟩ = some (.int .i64 B) := by
  rw [show (⟨br, 1, none⟩ : Addr) = at_ br 1 from rfl, cell_of_blk h.self]; rfl

set_option maxRecDepth 100000 in
set_option maxHeartbeats 1000000 in
theorem rput_nil (o : Own) (s : Int) (w : World) : Calls Try.prog 34 #[.pointer none, o.val, .int .i64 s] w fun e w' => e = .returned (.tuple #[.slice none 0 0, .int .i64 1]) ∧ Ext Nope w w' := by
  go_enter Try.func34, Try.ntmps34
  go_wp2
  go_ret2
  exact ⟨rfl, (Ext.refl _ _).alloc _⟩

set_option maxRecDepth 100000 in
set_option maxHeartbeats 1000000 in
theorem rput_arg {w : World} {br : Nat} {B : Int} {v : Value} {xs : List Kept} (h : RRep w br B v xs) (o : Own) (s : Int) (hs : s < 0 ∨ 65536 < s) : Calls Try.prog 34 #[ptr br, o.val, .int .i64 s] w fun e w' => e = .returned (.tuple #[.slice none 0 0, .int .i64 1]) ∧ Ext Nope w w' := by
  have c0 := h.c0
  have hlt := lt_of_heap h.self
  clear h
  by_cases h1 : s < 0
  · go_enter Try.func34, Try.ntmps34
    go_wp2
    go_ret2
    exact ⟨rfl, (Ext.refl _ _).alloc _⟩
  · have h2 : 65536 < s := by omega
    have h3 : 0 ≤ s := by omega
    clear hs
    go_enter Try.func34, Try.ntmps34
    go_wp2
    go_ret2
    exact ⟨rfl, (Ext.refl _ _).alloc _⟩

set_option maxRecDepth 100000 in
set_option maxHeartbeats 4000000 in
theorem rput_full {w : World} {br : Nat} {B : Int} {v : Value} {xs : List Kept} (h : RRep w br B v xs) (hB : 0 ≤ B ∧ B ≤ 1073741824) (hz : ∀ x ∈ xs, 0 ≤ x.size ∧ x.size ≤ 65536) (hu : usedOf xs ≤ B) (o : Own) (s : Int) (s1 : 0 ≤ s) (s2 : s ≤ 65536) (hlen : xs.length ≤ 1000000)
    (hf : B < pinnedOf (restK o xs) + s) :
    Calls Try.prog 34 #[ptr br, o.val, .int .i64 s] w fun e w' => e = .returned (.tuple #[.slice none 0 0, .int .i64 50]) ∧ Ext Nope w w' := by
  have c0 := h.c0
  have hlt := lt_of_heap h.self
  have B0 := hB.1
  have B1 := hB.2
  obtain ⟨av, cap, hv, hcap, hmax, hav⟩ := h.gen
  obtain ⟨n, HN⟩ : ∃ n, Hid (xs.length = n) := ⟨_, rfl⟩
  rw [HN.out] at hv hcap hav hlen
  have HU : Hid (usedOf xs ≤ B) := hu
  have HZ : Hid (∀ x ∈ xs, 0 ≤ x.size ∧ x.size ≤ 65536) := hz
  have HAV := toHid hav
  clear hu hz hav
  subst hv
  go_enter Try.func34, Try.ntmps34
  go_wp2
  clear c0
  go_loopw [8, 9, 10] (fun p a i wr => ∃ (k : Nat) (pp aa : Int), i = .int .i64 k ∧ k ≤ n ∧ p = .int .i64 pp ∧ a = .int .i64 aa ∧ Hid (pp = s + pinnedOf (restK o (xs.take k))) ∧ Hid (aa = s + usedOf (restK o (xs.take k))) ∧ Ext Nope (w.alloc (.cells (ownCells o) 34)) wr) (fun _ _ i _ => n - (intOf i).toNat)
  case atStart => exact ⟨0, s, s, rfl, Nat.zero_le _, rfl, rfl, by simp [restK, pinnedOf, Hid], by simp [restK, usedOf, Hid], Ext.refl _ _⟩
  case round =>
    obtain ⟨k, pp, aa, rfl, hk, rfl, rfl, HP, HA, hE⟩ := hrel
    have hE' := ext0 ((Ext.refl Nope w).alloc (.cells (ownCells o) 34)) hE
    have hr := h.ext hE' (fun x => x) (fun _ _ x => x)
    have c2 := hr.c2
    have hb : BRow wr w.heap.size o := (hE.block _ (by simp) (fun x => x)).trans (heap_alloc_new w _)
    have q1 := sums_le (o := o) (xs.take k) (fun x hx => HZ.out x (List.mem_of_mem_take hx))
    have q2 := usedOf_take_le HZ.out k
    have q3 := HU.out
    have p1 : 0 ≤ pp := by have := HP.out; omega
    have p2 : pp ≤ 1073807360 := by have := HP.out; omega
    have a1 : 0 ≤ aa := by have := HA.out; omega
    have a2 : aa ≤ 1073807360 := by have := HA.out; omega
    clear q1 q2 q3
    by_cases hkn : k < n
    · obtain ⟨b0, b1, b2, b3⟩ := hb.cells
      obtain ⟨g, rfl⟩ := HAV.out (by omega)
      obtain ⟨y, l1, l2, hy, hyl⟩ := nth_split (xs := xs) (k := k) (by rw [HN.out]; exact hkn)
      have hcells := hr.list
      rw [hy] at hcells
      obtain ⟨y0, y1, y2, y3, y4, y5⟩ := kept_cells hcells
      rw [hyl] at y0 y1 y2 y3 y4 y5
      have heq : ∀ W, (Op.equalIn 10000 34 (.agg #[.int .i64 y.key.f, .int .i64 y.key.k, .int .i64 y.key.n, .int .i64 y.key.r]) (.agg #[.int .i64 o.f, .int .i64 o.k, .int .i64 o.n, .int .i64 o.r])).run Try.prog W = .ok (decide (y.key = o)) W := fun W => eq34 y.key o W
      obtain ⟨z1, z2⟩ := HZ.out y (by rw [hy]; simp)
      have ty : xs.take (k + 1) = xs.take k ++ [y] := take_at hy hyl
      have TY := toHid ty
      clear hcells hr hb hy ty hyl
      by_cases hyo : y.key = o
      · replace heq := fun W => (heq W).trans (by rw [decide_eq_true hyo])
        have HYO := toHid hyo
        clear hyo
        go_wp2_with fail
        go_quiet (fail)
        go_wp2
        go_roundw
        case rel => exact ⟨k + 1, pp, aa, by go_num, by omega, rfl, rfl, by rw [TY.out, restK_snoc_eq _ HYO.out]; exact HP, by rw [TY.out, restK_snoc_eq _ HYO.out]; exact HA, hE.drewN _⟩
        case measure => simp [intOf]; omega
      · replace heq := fun W => (heq W).trans (by rw [decide_eq_false hyo])
        have HYO := toHid hyo
        clear hyo
        cases hyp : y.pinned
        · rw [hyp] at y5
          go_wp2_with fail
          go_quiet (fail)
          go_wp2
          go_roundw
          case rel => exact ⟨k + 1, pp, aa + y.size, by go_num, by omega, rfl, rfl, by rw [TY.out, restK_snoc_ne _ HYO.out]; exact psum0 HP.out hyp, by rw [TY.out, restK_snoc_ne _ HYO.out]; exact usum HA.out, hE.drewN _⟩
          case measure => simp [intOf]; omega
        · rw [hyp] at y5
          go_wp2_with fail
          go_quiet (fail)
          go_wp2
          go_roundw
          case rel => exact ⟨k + 1, pp + y.size, aa + y.size, by go_num, by omega, rfl, rfl, by rw [TY.out, restK_snoc_ne _ HYO.out]; exact psum1 HP.out hyp, by rw [TY.out, restK_snoc_ne _ HYO.out]; exact usum HA.out, hE.drewN _⟩
          case measure => simp [intOf]; omega
    · have hkk : n = k := by omega
      subst hkk
      have d1 := hr.c1
      have hx0 : xs.take n = xs := by rw [← HN.out, List.take_length]
      rw [hx0] at HP HA
      clear hx0 hk hkn
      have hpp : B < pp := by have := HP.out; omega
      clear hr hb
      go_wp2
      go_ret2
      exact ⟨rfl, hE'⟩

end Go.Proofs.Ytkloaadaicklfaa
