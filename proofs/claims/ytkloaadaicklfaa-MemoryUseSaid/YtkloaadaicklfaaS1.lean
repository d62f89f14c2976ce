/-
  The example of the chapter holds.
-/
import Derived.Test.YtkloaadaicklfaaS0
namespace Go.Proofs.Ytkloaadaicklfaa
open Go.RowKit
attribute [local go_sem] alloc_drewN setCell_drewN

theorem muse_new {w0 w : World} {bm : Nat} {B : Int} {xs : List Kept} (h : MNew w0 w bm B xs) (hk : KOk B xs) (o : Own) :
    Calls Try.prog 14 #[ptr bm, o.val] w fun e w' => e = .returned (.bool (useA xs o).1) ∧ MNew w0 w' bm B (useA xs o).2 := by
  obtain ⟨F, hm, hF, hE⟩ := h
  refine (muse_calls hm hk o).mono ?_
  rintro e w' ⟨rfl, m, e2⟩
  exact ⟨rfl, MNew.act hF hE (Ext.refl _ _) m e2⟩
theorem mpin_new {w0 w : World} {bm : Nat} {B : Int} {xs : List Kept} (h : MNew w0 w bm B xs) (hk : KOk B xs) (o : Own) (on : Bool) :
    Calls Try.prog 15 #[ptr bm, o.val, .bool on] w fun e w' => e = .returned (.int .i64 (pinA xs o on).1) ∧ MNew w0 w' bm B (pinA xs o on).2 := by
  obtain ⟨F, hm, hF, hE⟩ := h
  refine (mpin_calls hm hk o on).mono ?_
  rintro e w' ⟨rfl, m, e2⟩
  exact ⟨rfl, MNew.act hF hE (Ext.refl _ _) m e2⟩
theorem mdrop_new {w0 w : World} {bm : Nat} {B : Int} {xs : List Kept} (h : MNew w0 w bm B xs) (hk : KOk B xs) (o : Own) :
    Calls Try.prog 16 #[ptr bm, o.val] w fun e w' => e = .returned (.int .i64 (dropA xs o).1) ∧ MNew w0 w' bm B (dropA xs o).2 := by
  obtain ⟨F, hm, hF, hE⟩ := h
  refine (mdrop_calls hm hk o).mono ?_
  rintro e w' ⟨rfl, m, e2⟩
  exact ⟨rfl, MNew.act hF hE (Ext.refl _ _) m e2⟩
theorem mput_new {w0 w : World} {bm : Nat} {B : Int} {xs : List Kept} (h : MNew w0 w bm B xs) (hk : KOk B xs) (hl : xs.length ≤ 990) (o : Own) (s : Int) :
    Calls Try.prog 17 #[ptr bm, o.val, .int .i64 s] w fun e w' => ∃ v, e = .returned (.tuple #[v, .int .i64 (putA B xs o s).2.1]) ∧ KeysAt w' w.heap.size v (putA B xs o s).1 ∧ MNew w0 w' bm B (putA B xs o s).2.2 := by
  obtain ⟨F, hm, hF, hE⟩ := h
  refine (mput_calls hm hk (by omega) o s).mono ?_
  rintro e w' ⟨v, rfl, hks, m, e2⟩
  exact ⟨v, rfl, hks, MNew.act hF hE (Ext.refl _ _) m e2⟩
theorem mlist_new {w0 w : World} {bm : Nat} {B : Int} {xs : List Kept} (h : MNew w0 w bm B xs) (hl : xs.length ≤ 990) :
    Calls Try.prog 18 #[ptr bm] w fun e w' => ∃ v, e = .returned v ∧ KeysAt w' w.heap.size v (keysK xs) ∧ MNew w0 w' bm B xs := by
  have h0 := h
  obtain ⟨F, hm, hF, hE⟩ := h
  refine (mlist_calls hm (by omega)).mono ?_
  rintro e w' ⟨v, rfl, hks, e2⟩
  exact ⟨v, rfl, hks, h0.ext e2⟩
theorem mused_new {w0 w : World} {bm : Nat} {B : Int} {xs : List Kept} (h : MNew w0 w bm B xs) :
    Calls Try.prog 19 #[ptr bm] w fun e w' => e = .returned (.int .i64 (usedOf xs)) ∧ w = w' := by
  obtain ⟨F, hm, hF, hE⟩ := h
  exact mused_calls hm

theorem puts_at {w0 w w1 : World} {bm : Nat} {B : Int} {xs ys : List Kept} {k s : Int} {ns : List Int} (hp : putA B xs (keyA k) s = (ns.map keyA, 0, ys)) (h : MNew w0 w bm B xs) (hk : KOk B xs) (he : Ext Nope w w1) {v : Value} (hv : IntsAt w1 v ns) (hnew : ∀ b, v.ownBlock = some b → w.heap.size ≤ b)
    (k0 : 0 ≤ k) (k1 : k ≤ 1000) (hl : xs.length ≤ 990) (hns : ∀ n ∈ ns, 0 ≤ n ∧ n ≤ 1000) (hnl : ns.length ≤ 100) :
    Calls Try.prog 21 #[ptr bm, .int .i64 k, .int .i64 s, v] w1 fun e w' => e = .returned (.bool true) ∧ MNew w0 w' bm B ys := by
  refine (puts_calls h hk hl he k s k0 k1 hv hnew hns hnl).mono ?_
  rw [hp]
  rintro e w' ⟨rfl, h'⟩
  exact ⟨by simp, h'⟩
theorem used_at {w0 w : World} {bm : Nat} {B : Int} {xs : List Kept} (n : Int) (hn : usedOf xs = n) (h : MNew w0 w bm B xs) :
    Calls Try.prog 19 #[ptr bm] w fun e w' => e = .returned (.int .i64 n) ∧ w = w' := by subst hn; exact mused_new h
theorem keysAt_two (w : World) (a b : Own) : KeysAt (w.alloc (.cells #[.int .i64 a.f, .int .i64 a.k, .int .i64 a.n, .int .i64 a.r, .int .i64 b.f, .int .i64 b.k, .int .i64 b.n, .int .i64 b.r] 34 (0, 0))) w.heap.size (.slice (some ⟨w.heap.size, 0, none⟩) 2 2) [a, b] :=
  World.ownsRow_lit w _ 2 (by simp) (by unfold maxLen; omega) rfl

/-- The states of the example. -/
abbrev ka (n s : Int) (p : Bool) : Kept := ⟨keyA n, s, p⟩
theorem s1 : putA 10 [] (keyA 1) 4 = ([], 0, [ka 1 4 false]) := by rfl
theorem s2 : putA 10 [ka 1 4 false] (keyA 2) 3 = ([], 0, [ka 1 4 false, ka 2 3 false]) := by rfl
theorem s3 : putA 10 [ka 1 4 false, ka 2 3 false] (keyA 3) 3 = ([], 0, [ka 1 4 false, ka 2 3 false, ka 3 3 false]) := by rfl
theorem s4 : useA [ka 1 4 false, ka 2 3 false, ka 3 3 false] (keyA 1) = (true, [ka 2 3 false, ka 3 3 false, ka 1 4 false]) := by rfl
theorem s5 : putA 10 [ka 2 3 false, ka 3 3 false, ka 1 4 false] (keyA 4) 4 = ([keyA 2, keyA 3], 0, [ka 1 4 false, ka 4 4 false]) := by rfl
theorem s6 : pinA [ka 1 4 false, ka 4 4 false] (keyA 1) true = (0, [ka 1 4 true, ka 4 4 false]) := by rfl
theorem s7 : putA 10 [ka 1 4 true, ka 4 4 false] (keyA 2) 7 = ([], 50, [ka 1 4 true, ka 4 4 false]) := by rfl
theorem s8 : putA 10 [ka 1 4 true, ka 4 4 false] (keyA 2) 6 = ([keyA 4], 0, [ka 1 4 true, ka 2 6 false]) := by rfl
theorem s9 : dropA [ka 1 4 true, ka 2 6 false] (keyA 1) = (51, [ka 1 4 true, ka 2 6 false]) := by rfl
theorem s10 : dropA [ka 1 4 true, ka 2 6 false] (keyA 4) = (5, [ka 1 4 true, ka 2 6 false]) := by rfl
theorem s11 : pinA [ka 1 4 true, ka 2 6 false] (keyA 1) false = (0, [ka 1 4 false, ka 2 6 false]) := by rfl
theorem s12 : dropA [ka 1 4 false, ka 2 6 false] (keyA 1) = (0, [ka 2 6 false]) := by rfl
theorem s13 : putA 10 [ka 2 6 false] (keyA 2) 10 = ([], 0, [ka 2 10 false]) := by rfl

theorem k1 : KOk 10 [ka 1 4 false] := by have := putA_ok (kok_nil (B := 10) (by omega) (by omega)) (keyA 1) 4; rw [s1] at this; exact this
theorem k2 : KOk 10 [ka 1 4 false, ka 2 3 false] := by have := putA_ok k1 (keyA 2) 3; rw [s2] at this; exact this
theorem k3 : KOk 10 [ka 1 4 false, ka 2 3 false, ka 3 3 false] := by have := putA_ok k2 (keyA 3) 3; rw [s3] at this; exact this
theorem k4 : KOk 10 [ka 2 3 false, ka 3 3 false, ka 1 4 false] := by have := (useA_ok k3 (keyA 1)).1; rw [s4] at this; exact this
theorem k5 : KOk 10 [ka 1 4 false, ka 4 4 false] := by have := putA_ok k4 (keyA 4) 4; rw [s5] at this; exact this
theorem k6 : KOk 10 [ka 1 4 true, ka 4 4 false] := by have := (pinA_ok k5 (keyA 1) true).1; rw [s6] at this; exact this
theorem k8 : KOk 10 [ka 1 4 true, ka 2 6 false] := by have := putA_ok k6 (keyA 2) 6; rw [s8] at this; exact this
theorem k11 : KOk 10 [ka 1 4 false, ka 2 6 false] := by have := (pinA_ok k8 (keyA 1) false).1; rw [s11] at this; exact this
theorem k12 : KOk 10 [ka 2 6 false] := by have := (dropA_ok k11 (keyA 1)).1; rw [s12] at this; exact this

set_option maxRecDepth 100000 in
set_option maxHeartbeats 4000000 in
theorem sanity_calls (w : World) : Calls Try.prog 10 #[] w fun e w' => e = .returned (.bool true) ∧ Ext Nope w w' := by
  go_enter Try.func10, Try.ntmps10
  go_wp2_with fail
  refine (mnew_new 10 _ (by omega) (by omega)).mono ?_
  rintro e w1 ⟨bm, rfl, h1⟩
  go_wp2_with fail
  refine (puts_at (ns := []) s1 h1 (kok_nil (by omega) (by omega)) (Ext.refl _ _) (.inl ⟨rfl, rfl⟩) (by simp [Value.ownBlock]) (by omega) (by omega) (by simp) (by simp) (by simp)).mono ?_
  rintro e w2 ⟨rfl, h2⟩
  clear h1
  go_wp2_with fail
  refine (puts_at (ns := []) s2 h2 k1 (Ext.refl _ _) (.inl ⟨rfl, rfl⟩) (by simp [Value.ownBlock]) (by omega) (by omega) (by simp) (by simp) (by simp)).mono ?_
  rintro e w3 ⟨rfl, h3⟩
  clear h2
  go_wp2_with fail
  refine (puts_at (ns := []) s3 h3 k2 (Ext.refl _ _) (.inl ⟨rfl, rfl⟩) (by simp [Value.ownBlock]) (by omega) (by omega) (by simp) (by simp) (by simp)).mono ?_
  rintro e w4 ⟨rfl, h4⟩
  clear h3
  go_wp2_with fail
  refine (used_at 10 rfl h4).mono ?_
  rintro e wz ⟨rfl, rfl⟩
  go_wp2_with fail
  refine (key_calls 1 _ (by omega) (by omega)).mono ?_
  rintro e w5 ⟨rfl, E⟩
  have h5 := h4.ext E
  clear E h4
  go_wp2_with fail
  refine (muse_new h5 k3 (keyA 1)).mono ?_
  rw [s4]
  rintro e w6 ⟨rfl, h6⟩
  clear h5
  go_wp2_with fail
  refine (puts_at (ns := [2, 3]) s5 h6 k4 ((Ext.refl _ _).alloc _) (.inr ⟨_, _, _, rfl, heap_alloc_new _ _⟩) (by simp [Value.ownBlock]) (by omega) (by omega) (by simp) (by simp) (by simp)).mono ?_
  rintro e w7 ⟨rfl, h7⟩
  clear h6
  go_wp2_with fail
  refine (mlist_new h7 (by simp)).mono ?_
  rintro e w8 ⟨v, rfl, hv, h8⟩
  clear h7
  go_wp2_with fail
  refine (key_calls 1 _ (by omega) (by omega)).mono ?_
  rintro e w9 ⟨rfl, E⟩
  have hv9 := hv.ext E (fun _ _ z => z)
  have h9 := h8.ext E
  clear E h8 hv
  go_wp2_with fail
  refine (key_calls 4 _ (by omega) (by omega)).mono ?_
  rintro e w10 ⟨rfl, E⟩
  have hv10 := hv9.ext E (fun _ _ z => z)
  have h10 := h9.ext E
  clear E h9 hv9
  go_wp2_with fail
  refine (same_walk (hv10.ext ((Ext.refl Nope _).alloc _) (fun _ _ z => z)) (keysAt_two w10 (keyA 1) (keyA 4)) (by simp [keysK]) (by simp)).mono ?_
  rw [show decide (keysK [ka 1 4 false, ka 4 4 false] = [keyA 1, keyA 4]) = true from rfl]
  rintro e w11 ⟨rfl, E⟩
  have h11 := h10.ext (ext0 ((Ext.refl Nope _).alloc _) E)
  clear E h10 hv10
  go_wp2_with fail
  refine (used_at 8 rfl h11).mono ?_
  rintro e wz ⟨rfl, rfl⟩
  go_wp2_with fail
  refine (key_calls 1 _ (by omega) (by omega)).mono ?_
  rintro e w12 ⟨rfl, E⟩
  have h12 := h11.ext E
  clear E h11
  go_wp2_with fail
  refine (mpin_new h12 k5 (keyA 1) true).mono ?_
  rw [s6]
  rintro e w13 ⟨rfl, h13⟩
  clear h12
  go_wp2_with fail
  refine (key_calls 2 _ (by omega) (by omega)).mono ?_
  rintro e w14 ⟨rfl, E⟩
  have h14 := h13.ext E
  clear E h13
  go_wp2_with fail
  refine (mput_new h14 k6 (by simp) (keyA 2) 7).mono ?_
  rw [s7]
  rintro e w15 ⟨v2, rfl, hv2, h15⟩
  clear h14 hv2
  go_wp2_with fail
  refine (puts_at (ns := [4]) s8 h15 k6 ((Ext.refl _ _).alloc _) (.inr ⟨_, _, _, rfl, heap_alloc_new _ _⟩) (by simp [Value.ownBlock]) (by omega) (by omega) (by simp) (by simp) (by simp)).mono ?_
  rintro e w16 ⟨rfl, h16⟩
  clear h15
  go_wp2_with fail
  refine (key_calls 1 _ (by omega) (by omega)).mono ?_
  rintro e w17 ⟨rfl, E⟩
  have h17 := h16.ext E
  clear E h16
  go_wp2_with fail
  refine (mdrop_new h17 k8 (keyA 1)).mono ?_
  rw [s9]
  rintro e w18 ⟨rfl, h18⟩
  clear h17
  go_wp2_with fail
  refine (key_calls 4 _ (by omega) (by omega)).mono ?_
  rintro e w19 ⟨rfl, E⟩
  have h19 := h18.ext E
  clear E h18
  go_wp2_with fail
  refine (mdrop_new h19 k8 (keyA 4)).mono ?_
  rw [s10]
  rintro e w20 ⟨rfl, h20⟩
  clear h19
  go_wp2_with fail
  refine (key_calls 1 _ (by omega) (by omega)).mono ?_
  rintro e w21 ⟨rfl, E⟩
  have h21 := h20.ext E
  clear E h20
  go_wp2_with fail
  refine (mpin_new h21 k8 (keyA 1) false).mono ?_
  rw [s11]
  rintro e w22 ⟨rfl, h22⟩
  clear h21
  go_wp2_with fail
  refine (key_calls 1 _ (by omega) (by omega)).mono ?_
  rintro e w23 ⟨rfl, E⟩
  have h23 := h22.ext E
  clear E h22
  go_wp2_with fail
  refine (mdrop_new h23 k11 (keyA 1)).mono ?_
  rw [s12]
  rintro e w24 ⟨rfl, h24⟩
  clear h23
  go_wp2_with fail
  refine (puts_at (ns := []) s13 h24 k12 (Ext.refl _ _) (.inl ⟨rfl, rfl⟩) (by simp [Value.ownBlock]) (by omega) (by omega) (by simp) (by simp) (by simp)).mono ?_
  rintro e w25 ⟨rfl, h25⟩
  clear h24
  go_wp2_with fail
  refine (used_at 10 rfl h25).mono ?_
  rintro e wz ⟨rfl, rfl⟩
  obtain ⟨F, _, _, E⟩ := h25
  go_wp2
  go_ret
  exact ⟨rfl, E⟩
end Go.Proofs.Ytkloaadaicklfaa
