/-
  Whether two lists of rows, or of rectangles, are equal.
-/
import Derived.Test.YtmmcadbkmfjcbaaDoorA2
namespace Go.Proofs.YtmmcadbkmfjcbaaDoor
open Go.RowKit
attribute [local go_sem] alloc_drewN setCell_drewN

theorem und3 : Tryd.prog.underlying 3 = some (.int .i64) := by kernel_rfl
theorem und31 : Tryd.prog.underlying 31 = some (.struct (Tryd.prog.fieldsOf 31)) := by kernel_rfl
theorem fld31 : (Tryd.prog.fieldsOf 31).toList.map (fun f => (f.name, f.type, f.offset)) = [("X", 3, 0), ("Y", 3, 1), ("W", 3, 2), ("H", 3, 3)] := by kernel_rfl
theorem list4 {α β : Type} (g : α → β) {l : List α} {x y z u : β} (h : l.map g = [x, y, z, u]) : ∃ a b c d, l = [a, b, c, d] ∧ g a = x ∧ g b = y ∧ g c = z ∧ g d = u := by
  match l, h with
  | [a, b, c, d], h => simp at h; exact ⟨a, b, c, d, rfl, h.1, h.2.1, h.2.2.1, h.2.2.2⟩
theorem isAgg3 (w : World) : (isAgg 3).run Tryd.prog w = .ok false w := by simp [isAgg, run_underlying und3]
theorem part3 (w : World) (cs : Array Value) (i : Nat) (v : Value) (h : cs[i]? = some v) : (part 3 cs i).run Tryd.prog w = .ok v w := by
  simp [part, h]
theorem eq31 (o p : R) (w : World) : (Op.equalIn 10000 31 o.val p.val).run Tryd.prog w = .ok (decide (o = p)) w := by
  rw [run_equalIn_struct _ _ _ _ _ und31 (by kernel_rfl)]
  obtain ⟨f1, f2, f3, f4, hl, h1, h2, h3, h4⟩ := list4 _ fld31
  simp only [Prod.mk.injEq] at h1 h2 h3 h4
  rw [hl]
  simp only [Op.eqFields, h1, h2, h3, h4]
  obtain ⟨a, b, c, d⟩ := o
  obtain ⟨a', b', c', d'⟩ := p
  simp [part3, run_equalIn_int _ _ _ _ _ _ _ und3]
  by_cases e1 : a = a' <;> by_cases e2 : b = b' <;> by_cases e3 : c = c' <;> by_cases e4 : d = d' <;> simp [e1, e2, e3, e4]

/-- Where the rows of a slice that is read stand. -/
theorem Reads.at {w : World} {a : Option Addr} {n cap : Nat} {xs : List Nat} (h : Reads w (.slice a n cap) xs) (h0 : 0 < n) : ∃ b off, a = some ⟨b, off, none⟩ ∧ b < w.heap.size ∧ ∀ (k x : Nat), xs[k]? = some x → w.cell? ⟨b, off + k, none⟩ = some (u64 x) := by
  obtain ⟨a', cap', hv, _, _, h3⟩ := h
  injection hv with e1 e2 e3
  rw [← e2] at h3
  rw [e1]
  exact h3 h0
theorem take_snoc {xs : List Nat} {k x : Nat} (h : xs[k]? = some x) : xs.take (k + 1) = xs.take k ++ [x] := by
  rw [List.take_add_one, h]; rfl
theorem some_at {xs : List Nat} {k n : Nat} (h : k < n) (hn : xs.length = n) : ∃ x, xs[k]? = some x := by
  subst hn
  exact ⟨xs[k], by simp [h]⟩

theorem neq_nat {n m : Nat} (h : n ≠ m) : ((n : Int) == (m : Int)) = false ∧ ((n : Int) != (m : Int)) = true := by
  have h1 : ((n : Int) == (m : Int)) = false := by simp; omega
  exact ⟨h1, by simp [bne, h1]⟩
theorem eq_nat {n m : Nat} (h : n = m) : ((n : Int) == (m : Int)) = true ∧ ((n : Int) != (m : Int)) = false := by subst h; simp

set_option maxHeartbeats 1000000 in
theorem same_calls {w : World} {p q : Value} {xs ys : List Nat} (hp : Reads w p xs) (hq : Reads w q ys) :
    Calls Tryd.prog 15 #[p, q] w fun e w' => e = .returned (.bool (decide (xs = ys))) ∧ Ext Nope w w' := by
  obtain ⟨n, HN⟩ : ∃ n, Hid (xs.length = n) := ⟨_, rfl⟩
  obtain ⟨m, HM⟩ : ∃ m, Hid (ys.length = m) := ⟨_, rfl⟩
  have HP := toHid hp
  have HQ := toHid hq
  obtain ⟨a, ca, hva, hn1, hn2, _⟩ := hp
  obtain ⟨b, cb, hvb, hm1, hm2, _⟩ := hq
  rw [HN.out] at hva hn1
  rw [HM.out] at hvb hm1
  by_cases hnm : n = m
  · subst hnm
    subst hva hvb
    go_enter Tryd.func15, Tryd.ntmps15
    go_wp2
    go_loopw [5] (fun i wr => ∃ k : Nat, i = .int .i64 k ∧ k ≤ n ∧ Hid (xs.take k = ys.take k) ∧ Ext Nope w wr) (fun i _ => n - (intOf i).toNat)
    case atStart => exact ⟨0, rfl, Nat.zero_le _, rfl, Ext.refl _ _⟩
    case round =>
      obtain ⟨k, rfl, hk1, HT, hE⟩ := hrel
      by_cases hkn : k < n
      · obtain ⟨b1, o1, rfl, hb1, hc1⟩ := (HP.out.ext0 hE).at (by omega)
        obtain ⟨b2, o2, rfl, hb2, hc2⟩ := (HQ.out.ext0 hE).at (by omega)
        obtain ⟨x, hx⟩ := some_at hkn HN.out
        obtain ⟨y, hy⟩ := some_at hkn HM.out
        have p0 := hc1 k x hx
        have q0 := hc2 k y hy
        have TX := toHid (take_snoc hx)
        have TY := toHid (take_snoc hy)
        clear hc1 hc2 hx hy hb1 hb2
        by_cases hxy : x = y
        · have hxy' := (eq_nat hxy).2
          have HXY := toHid hxy
          clear hxy
          go_wp2_with fail
          go_quiet (fail)
          go_wp2
          go_roundw
          case rel => exact ⟨k + 1, by go_num, by omega, by show _ = _; rw [TX.out, TY.out, HT.out, HXY.out], hE.drewN _⟩
          case measure => simp [intOf]; omega
        · have hne : xs ≠ ys := fun e => by
            have h1 := TX.out
            rw [e, TY.out] at h1
            have := List.append_inj_right' h1 rfl
            simp only [List.cons.injEq, and_true] at this
            exact hxy this.symm
          have HNE := toHid hne
          have hxy' := (neq_nat hxy).2
          clear hxy hne
          go_wp2_with fail
          go_quiet (fail)
          go_wp2
          go_ret
          exact ⟨by rw [decide_eq_false HNE.out]; rfl, hE.drewN _⟩
      · have hkk : k = n := by omega
        subst hkk
        have e3 : xs = ys := by
          have := HT.out
          rw [← HN.out, List.take_length] at this
          rw [this, HN.out, ← HM.out, List.take_length]
        have HE3 := toHid e3
        clear e3
        go_wp2
        go_ret
        exact ⟨by rw [decide_eq_true HE3.out]; rfl, hE⟩
  · have hne : xs ≠ ys := fun e => hnm (by rw [← HN.out, ← HM.out, e])
    obtain ⟨h1, h2⟩ := neq_nat hnm
    have HNE := toHid hne
    clear hne
    subst hva hvb
    go_enter Tryd.func15, Tryd.ntmps15
    go_wp2
    go_ret
    exact ⟨by rw [decide_eq_false HNE.out]; rfl, Ext.refl _ _⟩

theorem RectsAt.at {w : World} {base : Nat} {a : Option Addr} {n m cap : Nat} {rs : List R} (h : RectsAt w base (.slice a n cap) rs) (hm : rs.length = m) (h0 : 0 < m) : ∃ g, a = some ⟨g, 0, none⟩ := by
  obtain ⟨av, c, hv, _, _, h3⟩ := own_gen h
  injection hv with e1 e2 e3
  rw [e1]
  exact h3 (by omega)
set_option maxHeartbeats 1000000 in
theorem samer_calls {w : World} {p q : Value} {bp bq : Nat} {xs ys : List R} (hp : RectsAt w bp p xs) (hq : RectsAt w bq q ys) :
    Calls Tryd.prog 21 #[p, q] w fun e w' => e = .returned (.bool (decide (xs = ys))) ∧ Ext Nope w w' := by
  obtain ⟨n, HN⟩ : ∃ n, Hid (xs.length = n) := ⟨_, rfl⟩
  obtain ⟨m, HM⟩ : ∃ m, Hid (ys.length = m) := ⟨_, rfl⟩
  have HP := toHid hp
  have HQ := toHid hq
  obtain ⟨a, ca, hva, hn1, hn2, _⟩ := own_gen hp
  obtain ⟨b, cb, hvb, hm1, hm2, _⟩ := own_gen hq
  rw [HN.out] at hva hn1
  rw [HM.out] at hvb hm1
  clear hp hq
  by_cases hnm : n = m
  · subst hnm
    subst hva hvb
    go_enter Tryd.func21, Tryd.ntmps21
    go_wp2
    go_loopw [5] (fun i wr => ∃ k : Nat, i = .int .i64 k ∧ k ≤ n ∧ Hid (xs.take k = ys.take k) ∧ Ext Nope w wr) (fun i _ => n - (intOf i).toNat)
    case atStart => exact ⟨0, rfl, Nat.zero_le _, rfl, Ext.refl _ _⟩
    case round =>
      obtain ⟨k, rfl, hk1, HT, hE⟩ := hrel
      by_cases hkn : k < n
      · obtain ⟨g1, rfl⟩ := HP.out.at HN.out (by omega)
        obtain ⟨g2, rfl⟩ := HQ.out.at HM.out (by omega)
        obtain ⟨x, a1, a2, hx, hxl⟩ := nth_split (xs := xs) (k := k) (by rw [HN.out]; exact hkn)
        obtain ⟨y, b1, b2, hy, hyl⟩ := nth_split (xs := ys) (k := k) (by rw [HM.out]; exact hkn)
        obtain ⟨p0, p1, p2, p3⟩ := rect_cells (own_ext HP.out hE (fun _ _ z => z)) hx
        obtain ⟨q0, q1, q2, q3⟩ := rect_cells (own_ext HQ.out hE (fun _ _ z => z)) hy
        rw [hxl] at p0 p1 p2 p3
        rw [hyl] at q0 q1 q2 q3
        have heq : ∀ W, (Op.equalIn 10000 31 (.agg #[.int .i64 x.x, .int .i64 x.y, .int .i64 x.w, .int .i64 x.h]) (.agg #[.int .i64 y.x, .int .i64 y.y, .int .i64 y.w, .int .i64 y.h])).run Tryd.prog W = .ok (decide (x = y)) W := fun W => eq31 x y W
        obtain ⟨tx1, tx2⟩ := take_len hx hxl
        obtain ⟨ty1, ty2⟩ := take_len hy hyl
        have TX : Hid (xs.take (k + 1) = xs.take k ++ [x]) := by show _ = _; rw [tx1, tx2]
        have TY : Hid (ys.take (k + 1) = ys.take k ++ [y]) := by show _ = _; rw [ty1, ty2]
        clear hx hy hxl hyl tx1 tx2 ty1 ty2
        by_cases hxy : x = y
        · replace heq := fun W => (heq W).trans (by rw [decide_eq_true hxy])
          have HXY := toHid hxy
          clear hxy
          go_wp2_with fail
          go_quiet (fail)
          go_wp2
          go_roundw
          case rel => exact ⟨k + 1, by go_num, by omega, by show _ = _; rw [TX.out, TY.out, HT.out, HXY.out], hE.drewN _⟩
          case measure => simp [intOf]; omega
        · replace heq := fun W => (heq W).trans (by rw [decide_eq_false hxy])
          have hne : xs ≠ ys := fun e => by
            have h1 := TX.out
            rw [e, TY.out] at h1
            have := List.append_inj_right' h1 rfl
            simp only [List.cons.injEq, and_true] at this
            exact hxy this.symm
          have HNE := toHid hne
          clear hxy hne
          go_wp2_with fail
          go_quiet (fail)
          go_wp2
          go_ret
          exact ⟨by rw [decide_eq_false HNE.out]; rfl, hE.drewN _⟩
      · have hkk : k = n := by omega
        subst hkk
        have e3 : xs = ys := by
          have := HT.out
          rw [← HN.out, List.take_length] at this
          rw [this, HN.out, ← HM.out, List.take_length]
        have HE3 := toHid e3
        clear e3
        go_wp2
        go_ret
        exact ⟨by rw [decide_eq_true HE3.out]; rfl, hE⟩
  · have hne : xs ≠ ys := fun e => hnm (by rw [← HN.out, ← HM.out, e])
    obtain ⟨h1, h2⟩ := neq_nat hnm
    have HNE := toHid hne
    clear hne
    subst hva hvb
    go_enter Tryd.func21, Tryd.ntmps21
    go_wp2
    go_ret
    exact ⟨by rw [decide_eq_false HNE.out]; rfl, Ext.refl _ _⟩

end Go.Proofs.YtmmcadbkmfjcbaaDoor
