/-
  The reference memory: the list without one place.
-/
import Derived.Test.YtkloaadaicklfaaH3
import Derived.Deep.RegionHeld3
import Derived.Deep.AppendLies
import Derived.IntWalk
namespace Go.Proofs.Ytkloaadaicklfaa
open Go.RowKit

/-- The reference: what is kept, as cells. -/
def keptCells (xs : List Kept) : List Value := xs.flatMap fun x => [.int .i64 x.key.f, .int .i64 x.key.k, .int .i64 x.key.n, .int .i64 x.key.r, .int .i64 x.size, .bool x.pinned]
theorem keptCells_append (a b : List Kept) : keptCells (a ++ b) = keptCells a ++ keptCells b := by simp [keptCells]
theorem keptCells_cons (x : Kept) (b : List Kept) : keptCells (x :: b) = [.int .i64 x.key.f, .int .i64 x.key.k, .int .i64 x.key.n, .int .i64 x.key.r, .int .i64 x.size, .bool x.pinned] ++ keptCells b := rfl
theorem keptCells_length (a : List Kept) : (keptCells a).length = a.length * 6 := by
  induction a with
  | nil => rfl
  | cons o a ih => rw [keptCells_cons, List.length_append, ih]; simp; omega
theorem keptCells_take (a b : List Kept) : (keptCells (a ++ b)).take (a.length * 6) = keptCells a := by
  rw [keptCells_append, ← keptCells_length, List.take_left]
theorem keptCells_drop (a b : List Kept) : (keptCells (a ++ b)).drop (a.length * 6) = keptCells b := by
  rw [keptCells_append, ← keptCells_length, List.drop_left]
theorem keptCells_one (a : List Kept) : ∀ u ∈ keptCells a, u.oneCell' = true := by
  intro u hu
  obtain ⟨x, _, hx⟩ := List.mem_flatMap.1 hu
  simp at hx
  rcases hx with rfl | rfl | rfl | rfl | rfl | rfl <;> rfl

theorem info55 : (Try.prog.info? 55).map (fun i => (i.zero, i.size, i.bytes)) = some (some (.agg #[.int .i64 0, .int .i64 0, .int .i64 0, .int .i64 0, .int .i64 0, .bool false]), 6, 48) := by kernel_rfl

/-- The list of a reference memory: a slice value. -/
def KeptAt (w : World) (base : Nat) (v : Value) (xs : List Kept) : Prop := w.ownsRow base 55 6 v xs.length (keptCells xs)

theorem step_append_own {P : Program} {w : World} {ops : Array Oper} {o : Oper} {a : Act} {K : Act → World → Prop} {Q : Exit → Act → World → Prop} {E : Prop} (hgd : o.guard = none) (s x : Operand) (t : TypeId)
    (ho : o.op = .call { callee := .builtin .append, args := #[s, x], argTypes := #[t, t] })
    (base : Nat) (e : TypeId) (i : TypeInfo) (z : Value) (size bytes : Nat) (ht : P.underlying t = some (.slice e)) (hi : P.info? e = some i) (hz : i.zero = some z)
    (hsize : i.size = size) (hby : i.bytes = bytes) (hzs : z.cells.size = size) (hsz : 0 < size)
    (v : Value) (n : Nat) (xs : List Value) (hs : a.eval s = v) (hown : w.ownsRow base e size v n xs)
    (ad : Addr) (m c : Nat) (news : List Value) (hx : a.eval x = .slice (some ad) m c) (hl : news.length = m * size) (hnews : ∀ j u, news[j]? = some u → w.cell? (ad.add j) = some u) (h1 : ∀ u ∈ news, u.oneCell' = true)
    (h63 : n + m ≤ maxLen) (hbytes : (n + m) * bytes ≤ 140737488355328) (hbase : base ≤ w.heap.size)
    (h : ∀ v' w', w'.ownsRow base e size v' (n + m) (xs ++ news) → w.grownBy w' v.ownBlock → (v' = .slice none 0 0 ↔ v = .slice none 0 0 ∧ m = 0) → K (a.put o.dst v') w') :
    if Region.wanted o (yielded ops a.tmps) = true then Oper.wp P o a w K Q else E := by
  have hw : Region.wanted o (yielded ops a.tmps) = true := by simp [Region.wanted, hgd]
  rw [if_pos hw]
  exact wp_append_own w s x t ho base e i z size bytes ht hi hz hsize hby hzs hsz v n xs hs hown ad m c news hx hl hnews h1 h63 hbytes hbase h

theorem KeptAt.heap {w : World} {base g n cap : Nat} {xs : List Kept} (h : KeptAt w base (.slice (some ⟨g, 0, none⟩) n cap) xs) : ∃ cur, w.heap[g]? = some (.cells cur 55 (0, 0)) ∧ cur.toList.take (xs.length * 6) = keptCells xs ∧ xs.length ≤ cap ∧ cur.size = cap * 6 ∧ cap ≤ maxLen ∧ n = xs.length := by
  obtain ⟨_, h | ⟨g', cap', cur, hv, _, hg, hn, hm, hs, ht⟩⟩ := h
  · simp at h
  · simp only [Value.slice.injEq, Option.some.injEq, Addr.mk.injEq, and_true] at hv
    obtain ⟨rfl, hv2, rfl⟩ := hv
    exact ⟨cur, hg, ht, hn, hs, hm, hv2⟩
theorem kept_cell {w : World} {base g n cap : Nat} {xs : List Kept} (h : KeptAt w base (.slice (some ⟨g, 0, none⟩) n cap) xs) {j : Nat} {u : Value} (hj : (keptCells xs)[j]? = some u) : w.cell? (at_ g j) = some u := by
  obtain ⟨cur, hg, ht, _⟩ := h.heap
  rw [cell_of_blk hg]
  rw [← ht] at hj
  rw [← Array.getElem?_toList]
  rw [List.getElem?_take] at hj
  split at hj
  · exact hj
  · simp at hj
theorem KeptAt.ext {w w' : World} {base : Nat} {v : Value} {xs : List Kept} (h : KeptAt w base v xs) {S : Nat → Prop} (he : Ext S w w') (hs : ∀ k, v.ownBlock = some k → ¬ S k) : KeptAt w' base v xs := by
  obtain ⟨h1, h2⟩ := h
  refine ⟨h1, h2.imp id ?_⟩
  rintro ⟨g, cap, cur, hv, hb, hg, rest⟩
  exact ⟨g, cap, cur, hv, hb, (he.block g (lt_of_heap hg) (hs g (by rw [hv]; rfl))).trans hg, rest⟩
theorem kept_front {w : World} {base g n cap : Nat} {a b : List Kept} (h : KeptAt w base (.slice (some ⟨g, 0, none⟩) n cap) (a ++ b)) : ∀ w', Ext Nope w w' → ∀ j u, (keptCells a)[j]? = some u → w'.cell? (Addr.add ⟨g, 0, none⟩ j) = some u := by
  intro w' hx j u hj
  have e : Addr.add ⟨g, 0, none⟩ j = at_ g j := by unfold Addr.add; split <;> simp_all
  rw [e]
  refine kept_cell (h.ext hx fun _ _ x => x) ?_
  rw [keptCells_append]
  obtain ⟨hlt, _⟩ := List.getElem?_eq_some_iff.1 hj
  rw [List.getElem?_append_left hlt]; exact hj
theorem kept_back {w : World} {base g n cap k : Nat} {a b : List Kept} {x : Kept} (h : KeptAt w base (.slice (some ⟨g, 0, none⟩) n cap) (a ++ x :: b)) (hk : k = a.length) : ∀ w', Ext Nope w w' → ∀ j u, (keptCells b)[j]? = some u → w'.cell? (Addr.add ⟨g, (k + 1) * 6, none⟩ j) = some u := by
  intro w' hx j u hj
  have e : Addr.add ⟨g, (k + 1) * 6, none⟩ j = at_ g ((k + 1) * 6 + j) := by unfold Addr.add; split <;> simp_all
  rw [e]
  refine kept_cell (h.ext hx fun _ _ x => x) ?_
  rw [show a ++ x :: b = (a ++ [x]) ++ b from by simp, keptCells_append, List.getElem?_append_right (by rw [keptCells_length]; simp; omega), keptCells_length]
  rw [← hj]; congr 1; simp; omega

theorem without_end {w w0 w1 w2 : World} {v0 v1 v2 : Value} {a b : List Kept} {m : Nat} {cs : List Value} (h0 : Ext Nope w w0) (hb0 : ∀ k, v0.ownBlock = some k → w.heap.size ≤ k) (hown1 : w1.ownsRow w.heap.size 55 6 v1 a.length (keptCells a)) (hgrow1 : w0.grownBy w1 v0.ownBlock)
    (hown2 : w2.ownsRow w.heap.size 55 6 v2 m cs) (hgrow2 : w1.grownBy w2 v1.ownBlock) (hm : m = (a ++ b).length) (hcs : cs = keptCells (a ++ b)) :
    KeptAt w2 w.heap.size v2 (a ++ b) ∧ Ext Nope w w2 := by
  subst hm hcs
  exact ⟨hown2, (h0.grown hgrow1 fun k hk hlt => absurd (hb0 k hk) (by omega)).grown hgrow2 fun k hk hlt => absurd (hown1.lt k hk).1 (by omega)⟩

set_option maxRecDepth 100000 in
set_option maxHeartbeats 2000000 in
theorem without_walk (br g n cap k : Nat) (a b : List Kept) (x : Kept) (w : World) (hL : w.cell? ⟨br, 2, none⟩ = some (.slice (some ⟨g, 0, none⟩) n cap)) {base : Nat} (hrow : KeptAt w base (.slice (some ⟨g, 0, none⟩) n cap) (a ++ x :: b))
    (hn : n = a.length + 1 + b.length) (hk : k = a.length) (hcap : n ≤ cap) (hn2 : n ≤ 1000000) (hcm : cap ≤ 9223372036854775807) :
    Calls Try.prog 36 #[ptr br, .int .i64 k] w fun e w' => ∃ v, e = .returned v ∧ KeptAt w' w.heap.size v (a ++ b) ∧ Ext Nope w w' := by
  obtain ⟨i0, hi, hz0, hz1, hz2⟩ := info_parts info55
  have hlt := World.block_lt_of_cell? w _ hL
  have h1 : (0 : Int) ≤ (k : Int) := Int.natCast_nonneg _
  have h2 : (k : Int) ≤ (cap : Int) := by omega
  have h3 : (0 : Int) ≤ (k : Int) + 1 := by omega
  have h4 : (k : Int) + 1 ≤ (n : Int) := by omega
  have h5 : (k : Int) + 1 ≤ (cap : Int) := by omega
  have HN := toHid hn
  have HK := toHid hk
  have A1 : ∀ w', Ext Nope w w' → ∀ j u, (keptCells a)[j]? = some u → w'.cell? (Addr.add ⟨g, 0, none⟩ j) = some u := kept_front hrow
  have A2 : ∀ w', Ext Nope w w' → ∀ j u, (keptCells b)[j]? = some u → w'.cell? (Addr.add ⟨g, (k + 1) * 6, none⟩ j) = some u := kept_back hrow hk
  have la : (keptCells a).length = k * 6 := by rw [keptCells_length, hk]
  have lb : (keptCells b).length = (n - (k + 1)) * 6 := by rw [keptCells_length, hn, hk]; congr 1; omega
  have k1 : k ≤ 1000000 := by omega
  have hlt' : br < w.heap.size := hlt
  have hbr : (some br : Option Nat) ≠ some w.heap.size := by simp; omega
  have hn1 : n - (k + 1) ≤ 1000000 := by omega
  have e1 : ((k : Int) + 1).toNat = k + 1 := by omega
  have hw : IntKind.i64.wrap ((k : Int) + 1) = (k : Int) + 1 := IntWalk.i64_in _ (by omega)
  have LA := toHid la
  have LB := toHid lb
  have HB : Hid (cap = k + 1 → b = []) := fun hc => by
    cases b with
    | nil => rfl
    | cons y b => simp at hn; omega
  clear hn hk la lb
  by_cases hc : cap = k + 1
  · have HBN := toHid (HB.out hc)
    subst hc
    have h2' : (k : Int) ≤ (k : Int) + 1 := by omega
    have h2'' : k ≤ k + 1 := by omega
    go_enter Try.func36, Try.ntmps36
    go_wp2_with fail
    go_region_held3 (fun w' => w'.cell? ⟨br, 2, none⟩ = some (.slice (some ⟨g, 0, none⟩) n (k + 1))) (first | go_keep | (rw [hgrow1.cell_far _ (by simp; omega) hbr]; first | assumption | go_keep) | (rw [hgrow2.cell_far _ (by have := hgrow1.size; simp at this ⊢; omega) (fun e => by have := (hown1.lt br e.symm).1; omega)]; first | assumption | go_keep)) ((first
      | (refine step_append_own (by rfl) (.tmp 5) (.tmp 11) _ (by rfl) w.heap.size 55 i0 _ 6 48 Try.underlying51 hi hz0 hz1 hz2 rfl (by omega) _ _ _ (by rfl) (World.ownsRow_lit _ #[] 0 (by simp) (by unfold maxLen; omega) rfl) ⟨g, 0, none⟩ k (k + 1) (keptCells a) (by rfl) LA.out (A1 _ (by repeat (first | exact Ext.refl _ _ | refine Ext.drew ?_ | refine Ext.alloc ?_ _))) (keptCells_one a) (by unfold maxLen; omega) (by omega) (by simp) ?_; intro v1 w1 hown1 hgrow1 _; simp only [Nat.zero_add, List.nil_append] at hown1)
      | (refine step_append_own (by rfl) (.tmp 12) (.tmp 19) _ (by rfl) w.heap.size 55 i0 _ 6 48 Try.underlying51 hi hz0 hz1 hz2 rfl (by omega) _ _ _ (by rfl) (by exact hown1) ⟨g, 0, none⟩ 0 0 [] (by rfl) rfl (by simp) (by simp) (by unfold maxLen; omega) (by omega) (by have := hgrow1.size; simp at this; omega) ?_; intro v2 w2 hown2 hgrow2 _)))
    all_goals
      go_wp2
      go_ret
      rw [HK.out] at hown1
      exact ⟨_, rfl, without_end (b := b) (((Ext.refl _ _).alloc _).drew) (fun k hk => by simp [Value.ownBlock] at hk; omega) hown1 hgrow1 hown2 hgrow2 (by rw [HBN.out, HK.out, List.append_nil]; rfl) (by rw [HBN.out]; simp)⟩
  · go_enter Try.func36, Try.ntmps36
    go_wp2_with fail
    go_region_held3 (fun w' => w'.cell? ⟨br, 2, none⟩ = some (.slice (some ⟨g, 0, none⟩) n cap)) (first | go_keep | (rw [hgrow1.cell_far _ (by simp; omega) hbr]; first | assumption | go_keep) | (rw [hgrow2.cell_far _ (by have := hgrow1.size; simp at this ⊢; omega) (fun e => by have := (hown1.lt br e.symm).1; omega)]; first | assumption | go_keep)) ((first
      | (refine step_append_own (by rfl) (.tmp 5) (.tmp 11) _ (by rfl) w.heap.size 55 i0 _ 6 48 Try.underlying51 hi hz0 hz1 hz2 rfl (by omega) _ _ _ (by rfl) (World.ownsRow_lit _ #[] 0 (by simp) (by unfold maxLen; omega) rfl) ⟨g, 0, none⟩ k cap (keptCells a) (by rfl) LA.out (A1 _ (by repeat (first | exact Ext.refl _ _ | refine Ext.drew ?_ | refine Ext.alloc ?_ _))) (keptCells_one a) (by unfold maxLen; omega) (by omega) (by simp) ?_; intro v1 w1 hown1 hgrow1 _; simp only [Nat.zero_add, List.nil_append] at hown1)
      | (refine step_append_own (by rfl) (.tmp 12) (.tmp 19) _ (by rfl) w.heap.size 55 i0 _ 6 48 Try.underlying51 hi hz0 hz1 hz2 rfl (by omega) _ _ _ (by rfl) (by exact hown1) ⟨g, (k + 1) * 6, none⟩ (n - (k + 1)) (cap - (k + 1)) (keptCells b) (by rfl) LB.out (A2 _ (by first | exact ((((Ext.refl Nope w).alloc _).drew).grown hgrow1 (fun k1 h1 h2 => by simp [Value.ownBlock] at h1; omega)) | exact ((((Ext.refl Nope w).drew).alloc _).grown hgrow1 (fun k1 h1 h2 => by simp [Value.ownBlock] at h1; omega)))) (keptCells_one b) (by unfold maxLen; omega) (by omega) (by have := hgrow1.size; simp at this; omega) ?_; intro v2 w2 hown2 hgrow2 _)))
    all_goals
      go_wp2
      go_ret
      rw [HK.out] at hown1
      exact ⟨_, rfl, without_end (b := b) (((Ext.refl _ _).alloc _).drew) (fun k hk => by simp [Value.ownBlock] at hk; omega) hown1 hgrow1 hown2 hgrow2 (by rw [HN.out, HK.out, List.length_append]; omega) (keptCells_append _ _).symm⟩

end Go.Proofs.Ytkloaadaicklfaa
