/-
  Call.do: the walk.
-/
import Derived.Test.YtmmcadbkmfjcbaaDoorF1
import Derived.Test.YtmmcadbkmfjcbaaDoorU0
import Derived.Test.YtmmcadbkmfjcbaaDoorP1
import Derived.Test.YtmmcadbkmfjcbaaDoorG1
namespace Go.Proofs.YtmmcadbkmfjcbaaDoor
open Go.RowKit
attribute [local go_sem] alloc_drewN setCell_drewN

/-- Both panels, side by side. -/
structure Twin (W : World) (base b rb : Nat) (rv rrv : Value) (p : Pan) (r : Ref) (M : Nat) : Prop where
  pan : PanAt W base b rv p
  ref : RefAt W base rb rrv r
  apart : ∀ k, Foot b rv k → ¬ Foot rb rrv k
  rel : Rel p r
  ok : PanOK p
  many : p.many ≤ M
  w0 : p.w ≠ 0
def Foot2 (b rb : Nat) (rv rrv : Value) (k : Nat) : Prop := Foot b rv k ∨ Foot rb rrv k
theorem Twin.ext {W W' : World} {base b rb M : Nat} {rv rrv : Value} {p : Pan} {r : Ref} (h : Twin W base b rb rv rrv p r M) (e : Ext Nope W W') : Twin W' base b rb rv rrv p r M :=
  ⟨h.pan.ext e (fun _ _ z => z), h.ref.ext e (fun _ _ z => z), h.apart, h.rel, h.ok, h.many, h.w0⟩
theorem Twin.foot {W : World} {base b rb M : Nat} {rv rrv : Value} {p : Pan} {r : Ref} (h : Twin W base b rb rv rrv p r M) : ∀ k, Foot2 b rb rv rrv k → base ≤ k ∧ k < W.heap.size := fun k hk => hk.elim (h.pan.foot k) (h.ref.foot k)
/-- Both write the same. -/
theorem Twin.write {W W1 W2 : World} {base b rb M : Nat} {rv rrv : Value} {p : Pan} {r : Ref} {c : R} {xs : List Nat} {e1 e2 : Ending} (h : Twin W base b rb rv rrv p r M) (hM : M + 1 ≤ 1000000) (h1 : WriteOf W base b rv (writeA p c xs) e1 W1) (h2 : RWriteOf W1 base rb rrv (rwriteA r c xs) e2 W2) : (rwriteA r c xs).1 = (writeA p c xs).1 ∧ Twin W2 base b rb rv rrv (writeA p c xs).2 (rwriteA r c xs).2 (M + 1) ∧ Ext (Foot2 b rb rv rrv) W W2 := by
  obtain ⟨_, g1, g2⟩ := h1
  obtain ⟨_, k1, k2⟩ := h2
  obtain ⟨q1, q2⟩ := write_rel (c := c) (xs := xs) h.rel h.w0 h.ok.left
  obtain ⟨o1, o2, o3, _⟩ := write_ok (c := c) (xs := xs) h.ok h.many hM
  exact ⟨q1, ⟨g1.ext k2 (fun k hk z => h.apart k hk z), k1, h.apart, q2, o1, o2, by rw [o3]; exact h.w0⟩, (g2.mono (fun _ z => .inl z)).trans (k2.mono (fun _ z => .inr z)) (fun _ _ z => z)⟩
/-- What a call of do leaves. -/
def DoOf (w : World) (base b rb : Nat) (rv rrv : Value) (M : Nat) (W : Nat) (H : Nat) (e : Ending) (w' : World) : Prop := e = .returned (.bool true) ∧ (∃ p' r', Twin w' base b rb rv rrv p' r' (M + 1) ∧ p'.w = W ∧ p'.rows.length = H) ∧ Ext (Foot2 b rb rv rrv) w w'
theorem madeA_u64 {xs : List Nat} (hu : U64 xs) (n h : Nat) : U64 (madeA xs n h) := by
  intro x hx
  unfold madeA firstA at hx
  obtain ⟨y, hy, rfl⟩ := List.mem_map.1 hx
  exact mod_lt64 _ _ (padA_u64 hu h y hy)
theorem madeA_length (xs : List Nat) (n h : Nat) : (madeA xs n h).length = h := by unfold madeA; rw [firstA_length, padA_length]

set_option maxRecDepth 100000 in
set_option maxHeartbeats 4000000 in
theorem do_other {w : World} {base b rb M : Nat} {rv rrv : Value} {p : Pan} {r : Ref} {c : R} {av : Option Addr} {ln cap : Nat} {xs : List Nat} (what q0 q1 q2 q3 fl : Int) (hTw : Twin w base b rb rv rrv p r M) (hM : M + 1 ≤ 1000000) (hr : Reads w (.slice av ln cap) xs) (hu : U64 xs) (hc : c.i64) (w0 : 0 ≤ what ∧ what ≤ 255) (a0 : 0 ≤ q0 ∧ q0 ≤ 255) (a1 : 0 ≤ q1 ∧ q1 ≤ 255) (a2 : 0 ≤ q2 ∧ q2 ≤ 255) (a3 : 0 ≤ q3 ∧ q3 ≤ 255) (f1 : -9223372036854775808 ≤ fl) (f2 : fl ≤ 9223372036854775807) (W H : Nat) (hW1 : 1 ≤ W) (hW2 : W ≤ 64) (hH1 : 1 ≤ H) (hH2 : H ≤ 64) (hpw : p.w = W) (hph : p.rows.length = H) (hwh : what % 5 ≠ 0 ∧ what % 5 ≠ 1 ∧ what % 5 ≠ 2) :
    Calls Tryd.prog 14 #[.agg #[.int .u8 what, .int .u8 q0, .int .u8 q1, .int .u8 q2, .int .u8 q3, .int .i64 c.x, .int .i64 c.y, .int .i64 c.w, .int .i64 c.h, .slice av ln cap, .int .i64 fl], ptr b, ptr rb, .int .i64 W, .int .i64 H] w (DoOf w base b rb rv rrv M W H) := by
  have HT := toHid (show _ ∧ _ from ⟨hTw, hr⟩)
  have HPP := toHid (show _ ∧ _ from ⟨hpw, hph⟩)
  have hln : ln ≤ 9223372036854775807 ∧ xs.length = ln ∧ ln ≤ cap := by obtain ⟨a', c', e1, e2, e3, _⟩ := hr; injection e1 with _ e5 e6; omega
  have HLN := toHid hln
  have HWH := toHid hwh
  clear hpw hph hTw hr hln hwh
  go_enter Tryd.func14, Tryd.ntmps14
  go_wp2_with fail
  have e0 : Ext Nope w (w.alloc (.cells #[.int .u8 what, .int .u8 q0, .int .u8 q1, .int .u8 q2, .int .u8 q3, .int .i64 c.x, .int .i64 c.y, .int .i64 c.w, .int .i64 c.h, .slice av ln cap, .int .i64 fl] 34)) := (Ext.refl _ _).alloc _
  have k0 := heap_alloc_new w (.cells #[.int .u8 what, .int .u8 q0, .int .u8 q1, .int .u8 q2, .int .u8 q3, .int .i64 c.x, .int .i64 c.y, .int .i64 c.w, .int .i64 c.h, .slice av ln cap, .int .i64 fl] 34)
  have hin : inB (madeR q0 q1 q2 q3 W H) W H = true := madeR_in (by omega) (by omega)
  have hmi := mader_i64 (q0 := q0) (q1 := q1) (q2 := q2) (q3 := q3) (w := W) (h := H) a0 a1 a2 a3 (by omega) (by omega) (by omega) (by omega)
  refine (mader_calls q0 q1 q2 q3 W H _ a0 a1 a2 a3 (by omega) (by omega) (by omega) (by omega)).mono ?_
  rintro e w1 ⟨rfl, x1⟩
  obtain ⟨X, Y, rW, rH, hre, g1, g2, g3, g4⟩ := inB_nat hin
  rw [hre] at hmi ⊢
  clear hin hre
  have k1 := (x1.block _ (by simp) (fun z => z)).trans k0
  have e1 := ext0 e0 x1
  clear e0 x1 k0
  have k2 := (heap_alloc_old w1 (.cells #[.int .i64 (X : Int), .int .i64 (Y : Int), .int .i64 (rW : Int), .int .i64 (rH : Int)] 31) _ (lt_of_heap k1)).trans k1
  have kr := heap_alloc_new w1 (.cells #[.int .i64 (X : Int), .int .i64 (Y : Int), .int .i64 (rW : Int), .int .i64 (rH : Int)] 31)
  have b9 := cell_of_blk k1 9
  have hlt1 := lt_of_heap k1
  go_wp2_with fail
  refine (made_calls ((HT.out.2.ext0 e1).ext0 ((Ext.refl _ _).alloc _)) hu rW rH g1 (by omega) g2 (by omega) (by rw [HLN.out.2.1]; exact HLN.out.1)).mono ?_
  rintro e w2 ⟨u, rfl, ru, x2⟩
  have k3 := (x2.block _ (lt_of_heap k2) (fun z => z)).trans k2
  have kr3 := (x2.block _ (lt_of_heap kr) (fun z => z)).trans kr
  have e2 := ext0 (e1.alloc (.cells #[.int .i64 (X : Int), .int .i64 (Y : Int), .int .i64 (rW : Int), .int .i64 (rH : Int)] 31)) x2
  have hub : ∀ g, u.ownBlock = some g → w1.heap.size + 1 ≤ g := fun g hg => by have := (World.ownsRow.lt ru g hg).1; simpa using this
  have HU := toHid (show _ ∧ _ ∧ _ from ⟨ru.reads, madeA_u64 hu rW rH, hub⟩)
  clear x2 k1 k2 kr b9 ru hub
  have hsz1 : w.heap.size ≤ w1.heap.size := e1.size
  have HE := toHid (show _ ∧ _ ∧ _ from ⟨e2, k3, kr3⟩)
  have c0 := cell_of_blk k3 0
  have c10 := cell_of_blk k3 10
  clear e1 e2 k3 kr3
  obtain ⟨z, hz⟩ : ∃ z, what % 5 = z := ⟨_, rfl⟩
  have hzb : 0 ≤ z ∧ z < 5 := by omega
  have HWZ := HWH.out
  rw [hz] at HWZ
  have HZ := toHid hz
  clear hz
  have n0 : (z == 0) = false := by simp; omega
  have n1 : (z == 1) = false := by simp; omega
  have n2 : (z == 2) = false := by simp; omega
  have tm : what.tmod 5 = z := by rw [Int.tmod_eq_emod_of_nonneg w0.1]; exact HZ.out
  have tw : IntKind.u8.wrap z = z := IntWalk.u8_in _ (by omega)
  have HBLK := HE.out.2.2
  have HNF : ¬ Foot2 b rb rv rrv w1.heap.size := fun z => by have := (HT.out.1.foot _ z).2; omega
  go_upto_region 13 with fail
  clear n0 n1 n2 tm tw c0 c10
  have SK : Hid (∀ w', Ext (Foot2 b rb rv rrv) w2 w' → (w'.cell? ⟨w1.heap.size, 0, none⟩ = some (.int .i64 (X : Int)) ∧ w'.cell? ⟨w1.heap.size, 1, none⟩ = some (.int .i64 (Y : Int)) ∧ w'.cell? ⟨w1.heap.size, 2, none⟩ = some (.int .i64 (rW : Int)) ∧ w'.cell? ⟨w1.heap.size, 3, none⟩ = some (.int .i64 (rH : Int)))) := fun w' e => by
    have kk := (e.block _ (lt_of_heap HBLK) HNF).trans HBLK
    exact ⟨cell_of_blk kk 0, cell_of_blk kk 1, cell_of_blk kk 2, cell_of_blk kk 3⟩
  have HTK := toHid (HT.out.1.ext HE.out.1)
  have HUK := toHid (show Reads w2 u (madeA xs rW rH) ∧ U64 (madeA xs rW rH) ∧ (∀ g, u.ownBlock = some g → ¬ Foot b rv g) ∧ (∀ g, u.ownBlock = some g → ¬ Foot rb rrv g) from ⟨HU.out.1, HU.out.2.1, fun g hg z => by have := HU.out.2.2 g hg; have := (HT.out.1.foot _ (.inl z)).2; omega, fun g hg z => by have := HU.out.2.2 g hg; have := (HT.out.1.foot _ (.inr z)).2; omega⟩)
  clear HBLK HNF
  refine wp_region_head 8 (fun w' => (w'.cell? ⟨w1.heap.size, 0, none⟩ = some (.int .i64 (X : Int)) ∧ w'.cell? ⟨w1.heap.size, 1, none⟩ = some (.int .i64 (Y : Int)) ∧ w'.cell? ⟨w1.heap.size, 2, none⟩ = some (.int .i64 (rW : Int)) ∧ w'.cell? ⟨w1.heap.size, 3, none⟩ = some (.int .i64 (rH : Int)))) (by kernel_rfl) (by kernel_rfl) (SK.out _ (Ext.refl _ _).drew) (fun hO hHeld => ?_)
  refine wpAnyT_takeD (i := 0) (d := some 80) (v := ?_) hO rfl rfl (by kernel_rfl) (fun _ _ _ h => h) (Or.inl ⟨by rfl, ?_⟩) (by exact hHeld) ?_
  rotate_left
  · intro w' hSw
    obtain ⟨z1, z2, z3, z4⟩ := hSw
    go_simp
    try (with_reducible rfl)
  try simp only [Act.put, List.setIfInBounds_toArray, List.set_cons_zero, List.set_cons_succ]
  refine wpAnyT_takeD (i := 1) (d := some 81) (v := ?_) hO rfl rfl (by kernel_rfl) (fun _ _ _ h => h) (Or.inl ⟨by rfl, ?_⟩) (by exact hHeld) ?_
  rotate_left
  · intro w' hSw
    obtain ⟨z1, z2, z3, z4⟩ := hSw
    go_simp
    try (with_reducible rfl)
  try simp only [Act.put, List.setIfInBounds_toArray, List.set_cons_zero, List.set_cons_succ]
  refine wpAnyT_takeD (i := 2) (d := some 82) (v := ?_) hO rfl rfl (by kernel_rfl) (fun _ _ _ h => h) (Or.inl ⟨by rfl, ?_⟩) (by exact hHeld) ?_
  rotate_left
  · intro w' hSw
    obtain ⟨z1, z2, z3, z4⟩ := hSw
    go_simp
    try (with_reducible rfl)
  try simp only [Act.put, List.setIfInBounds_toArray, List.set_cons_zero, List.set_cons_succ]
  refine wpAnyT_takeD (i := 4) (d := some 84) (v := ?_) hO rfl rfl (by kernel_rfl) (fun _ _ _ h => h) (Or.inl ⟨by rfl, ?_⟩) (by exact hHeld) ?_
  rotate_left
  · intro w' hSw
    obtain ⟨z1, z2, z3, z4⟩ := hSw
    go_simp
    try (with_reducible rfl)
  try simp only [Act.put, List.setIfInBounds_toArray, List.set_cons_zero, List.set_cons_succ]
  refine wpAnyT_takeD (i := 5) (d := some 85) (v := ?_) hO rfl rfl (by kernel_rfl) (fun _ _ _ h => h) (Or.inl ⟨by rfl, ?_⟩) (by exact hHeld) ?_
  rotate_left
  · intro w' hSw
    obtain ⟨z1, z2, z3, z4⟩ := hSw
    go_simp
    try (with_reducible rfl)
  try simp only [Act.put, List.setIfInBounds_toArray, List.set_cons_zero, List.set_cons_succ]
  refine wpAnyT_takeD (i := 6) (d := some 86) (v := ?_) hO rfl rfl (by kernel_rfl) (fun _ _ _ h => h) (Or.inl ⟨by rfl, ?_⟩) (by exact hHeld) ?_
  rotate_left
  · intro w' hSw
    obtain ⟨z1, z2, z3, z4⟩ := hSw
    go_simp
    try (with_reducible rfl)
  try simp only [Act.put, List.setIfInBounds_toArray, List.set_cons_zero, List.set_cons_succ]
  clear hHeld
  refine wpAnyT_one (i := 3) rfl (by kernel_rfl) (by rfl) (fun K hK => ?_)
  go_simp
  refine (write_calls (c := ⟨X, Y, rW, rH⟩) (HTK.out.pan.ext (Ext.refl Nope _).drew (fun _ _ z => z)) HTK.out.ok (HUK.out.1.ext0 (Ext.refl Nope _).drew) HUK.out.2.2.1 HUK.out.2.1 hmi (by rw [madeA_length]; omega)).mono ?_
  rintro e w6 ⟨rfl, g5, g6⟩
  have h6 : WriteOf w2.drew base b rv _ _ w6 := ⟨rfl, g5, g6⟩
  have z6 : Ext (Foot2 b rb rv rrv) w2 w6 := (Ext.refl _ _).drew.trans (g6.mono (fun _ z => .inl z)) (fun _ _ z => z)
  have r6 := (HTK.out.ref.ext (Ext.refl Nope _).drew (fun _ _ z => z)).ext g6 (fun k hk z => HTK.out.apart k z hk)
  have u6 := (HUK.out.1.ext0 (Ext.refl Nope _).drew).ext g6 HUK.out.2.2.1
  have H6 := toHid (show _ ∧ _ ∧ _ from ⟨h6, r6, u6⟩)
  clear g5 g6 h6 r6 u6
  try go_simp
  refine hK.out _ _ (SK.out _ z6) (fun hHeld => ?_)
  clear hK K hHeld
  try simp only [Act.put, List.setIfInBounds_toArray, List.set_cons_zero, List.set_cons_succ]
  refine wpAnyT_one (i := 7) rfl (by kernel_rfl) (by rfl) (fun K hK => ?_)
  go_simp
  refine (rwrite_calls (c := ⟨X, Y, rW, rH⟩) H6.out.2.1 (rel_ok HTK.out.rel HTK.out.ok) H6.out.2.2 HUK.out.2.2.2 HUK.out.2.1 hmi (by rw [madeA_length]; omega)).mono ?_
  rintro e w7 ⟨rfl, g7, g8⟩
  have h7 : RWriteOf w6 base rb rrv _ _ w7 := ⟨rfl, g7, g8⟩
  have z7 : Ext (Foot2 b rb rv rrv) w2 w7 := z6.trans (g8.mono (fun _ z => .inr z)) (fun _ _ z => z)
  obtain ⟨tq1, tq2, _⟩ := Twin.write (HTK.out.ext (Ext.refl Nope _).drew) (by omega) H6.out.1 h7
  obtain ⟨_, _, o3, o4⟩ := write_ok (c := ⟨X, Y, rW, rH⟩) (xs := (madeA xs rW rH)) HTK.out.ok HTK.out.many (by omega)
  rw [tq1]
  have H7 := toHid (show _ ∧ _ ∧ _ ∧ _ from ⟨tq2, o3, o4, z7⟩)
  clear g7 g8 h7 z6
  try go_simp
  refine hK.out _ _ (SK.out _ z7) (fun hHeld => ?_)
  clear hK K hHeld z7
  try simp only [Act.put, List.setIfInBounds_toArray, List.set_cons_zero, List.set_cons_succ]
  refine wpAnyT_done (by kernel_rfl) ⟨by kernel_rfl, ?_⟩
  simp only [List.drop_succ_cons, List.drop_zero]
  go_wp2
  go_ret
  exact ⟨rfl, ⟨_, _, H7.out.1, by rw [H7.out.2.1]; exact HPP.out.1, by rw [H7.out.2.2.1]; exact HPP.out.2⟩, (HE.out.1.mono (fun _ z => z.elim)).trans H7.out.2.2.2 (fun _ _ z => z)⟩

set_option maxRecDepth 100000 in
set_option maxHeartbeats 4000000 in
theorem do_zero {w : World} {base b rb M : Nat} {rv rrv : Value} {p : Pan} {r : Ref} {c : R} {av : Option Addr} {ln cap : Nat} {xs : List Nat} (what q0 q1 q2 q3 fl : Int) (hTw : Twin w base b rb rv rrv p r M) (hM : M + 1 ≤ 1000000) (hr : Reads w (.slice av ln cap) xs) (hu : U64 xs) (hc : c.i64) (w0 : 0 ≤ what ∧ what ≤ 255) (a0 : 0 ≤ q0 ∧ q0 ≤ 255) (a1 : 0 ≤ q1 ∧ q1 ≤ 255) (a2 : 0 ≤ q2 ∧ q2 ≤ 255) (a3 : 0 ≤ q3 ∧ q3 ≤ 255) (f1 : -9223372036854775808 ≤ fl) (f2 : fl ≤ 9223372036854775807) (W H : Nat) (hW1 : 1 ≤ W) (hW2 : W ≤ 64) (hH1 : 1 ≤ H) (hH2 : H ≤ 64) (hpw : p.w = W) (hph : p.rows.length = H) (hwh : what % 5 = 0) :
    Calls Tryd.prog 14 #[.agg #[.int .u8 what, .int .u8 q0, .int .u8 q1, .int .u8 q2, .int .u8 q3, .int .i64 c.x, .int .i64 c.y, .int .i64 c.w, .int .i64 c.h, .slice av ln cap, .int .i64 fl], ptr b, ptr rb, .int .i64 W, .int .i64 H] w (DoOf w base b rb rv rrv M W H) := by
  have HT := toHid (show _ ∧ _ from ⟨hTw, hr⟩)
  have HPP := toHid (show _ ∧ _ from ⟨hpw, hph⟩)
  have hln : ln ≤ 9223372036854775807 ∧ xs.length = ln ∧ ln ≤ cap := by obtain ⟨a', c', e1, e2, e3, _⟩ := hr; injection e1 with _ e5 e6; omega
  have HLN := toHid hln
  have HWH := toHid hwh
  clear hpw hph hTw hr hln hwh
  go_enter Tryd.func14, Tryd.ntmps14
  go_wp2_with fail
  have e0 : Ext Nope w (w.alloc (.cells #[.int .u8 what, .int .u8 q0, .int .u8 q1, .int .u8 q2, .int .u8 q3, .int .i64 c.x, .int .i64 c.y, .int .i64 c.w, .int .i64 c.h, .slice av ln cap, .int .i64 fl] 34)) := (Ext.refl _ _).alloc _
  have k0 := heap_alloc_new w (.cells #[.int .u8 what, .int .u8 q0, .int .u8 q1, .int .u8 q2, .int .u8 q3, .int .i64 c.x, .int .i64 c.y, .int .i64 c.w, .int .i64 c.h, .slice av ln cap, .int .i64 fl] 34)
  have hin : inB (madeR q0 q1 q2 q3 W H) W H = true := madeR_in (by omega) (by omega)
  have hmi := mader_i64 (q0 := q0) (q1 := q1) (q2 := q2) (q3 := q3) (w := W) (h := H) a0 a1 a2 a3 (by omega) (by omega) (by omega) (by omega)
  refine (mader_calls q0 q1 q2 q3 W H _ a0 a1 a2 a3 (by omega) (by omega) (by omega) (by omega)).mono ?_
  rintro e w1 ⟨rfl, x1⟩
  obtain ⟨X, Y, rW, rH, hre, g1, g2, g3, g4⟩ := inB_nat hin
  rw [hre] at hmi ⊢
  clear hin hre
  have k1 := (x1.block _ (by simp) (fun z => z)).trans k0
  have e1 := ext0 e0 x1
  clear e0 x1 k0
  have k2 := (heap_alloc_old w1 (.cells #[.int .i64 (X : Int), .int .i64 (Y : Int), .int .i64 (rW : Int), .int .i64 (rH : Int)] 31) _ (lt_of_heap k1)).trans k1
  have kr := heap_alloc_new w1 (.cells #[.int .i64 (X : Int), .int .i64 (Y : Int), .int .i64 (rW : Int), .int .i64 (rH : Int)] 31)
  have b9 := cell_of_blk k1 9
  have hlt1 := lt_of_heap k1
  go_wp2_with fail
  refine (made_calls ((HT.out.2.ext0 e1).ext0 ((Ext.refl _ _).alloc _)) hu rW rH g1 (by omega) g2 (by omega) (by rw [HLN.out.2.1]; exact HLN.out.1)).mono ?_
  rintro e w2 ⟨u, rfl, ru, x2⟩
  have k3 := (x2.block _ (lt_of_heap k2) (fun z => z)).trans k2
  have kr3 := (x2.block _ (lt_of_heap kr) (fun z => z)).trans kr
  have e2 := ext0 (e1.alloc (.cells #[.int .i64 (X : Int), .int .i64 (Y : Int), .int .i64 (rW : Int), .int .i64 (rH : Int)] 31)) x2
  have hub : ∀ g, u.ownBlock = some g → w1.heap.size + 1 ≤ g := fun g hg => by have := (World.ownsRow.lt ru g hg).1; simpa using this
  have HU := toHid (show _ ∧ _ ∧ _ from ⟨ru.reads, madeA_u64 hu rW rH, hub⟩)
  clear x2 k1 k2 kr b9 ru hub
  have hsz1 : w.heap.size ≤ w1.heap.size := e1.size
  have HE := toHid (show _ ∧ _ ∧ _ from ⟨e2, k3, kr3⟩)
  have c0 := cell_of_blk k3 0
  have c10 := cell_of_blk k3 10
  clear e1 e2 k3 kr3
  obtain ⟨z, hz⟩ : ∃ z, what % 5 = z := ⟨_, rfl⟩
  have hzb : 0 ≤ z ∧ z < 5 := by omega
  have HWZ := HWH.out
  rw [hz] at HWZ
  have HZ := toHid hz
  clear hz
  obtain rfl : z = 0 := HWZ
  have tm : what.tmod 5 = 0 := by rw [Int.tmod_eq_emod_of_nonneg w0.1]; exact HZ.out
  go_wp2_with fail
  have T2 := HT.out.1.ext HE.out.1
  refine (fail_calls T2.pan fl).mono ?_
  rintro e w3 ⟨rfl, p3, x3⟩
  have hs : ∀ k, w.heap.size ≤ k → ¬ Foot2 b rb rv rrv k := fun k hk z => by have := (HT.out.1.foot _ z).2; omega
  have k3 := (x3.block _ (lt_of_heap HE.out.2.1) (fun z => hs _ (Nat.le_refl _) (.inl z))).trans HE.out.2.1
  have kr3 := (x3.block _ (lt_of_heap HE.out.2.2) (fun z => hs _ hsz1 (.inl z))).trans HE.out.2.2
  have r3 := T2.ref.ext x3 (fun k hk z => T2.apart k z hk)
  have d10 := cell_of_blk k3 10
  have HP3 := toHid (show _ ∧ _ ∧ _ ∧ _ ∧ _ ∧ _ ∧ _ from ⟨p3, r3, x3, k3, kr3, T2, hs⟩)
  clear p3 r3 x3 k3 kr3 T2 hs c0 c10
  go_wp2_with fail
  refine (rfail_calls HP3.out.2.1 fl).mono ?_
  rintro e w4 ⟨rfl, r4, x4⟩
  have T4 : Twin w4 base b rb rv rrv (failA p fl) (rfailA r fl) M := by
    obtain ⟨p3, r3, x3, k3, kr3, T2, hs⟩ := HP3.out
    obtain ⟨o1, o2, o3, o4⟩ := fail_ok (n := fl) T2.ok f1 f2
    exact ⟨p3.ext x4 (fun k hk z => T2.apart k hk z), r4, T2.apart, fail_rel T2.rel T2.w0 fl, o1, by rw [o2]; exact T2.many, by rw [o3]; exact T2.w0⟩
  have z4 : Ext (Foot2 b rb rv rrv) w2 w4 := (HP3.out.2.2.1.mono (fun _ z => .inl z)).trans (x4.mono (fun _ z => .inr z)) (fun _ _ z => z)
  have kr4 := (x4.block _ (lt_of_heap HP3.out.2.2.2.2.1) (fun z => HP3.out.2.2.2.2.2.2 _ hsz1 (.inr z))).trans HP3.out.2.2.2.2.1
  have u4 : Reads w4 u (madeA xs rW rH) := HU.out.1.ext z4 (fun g hg => HP3.out.2.2.2.2.2.2 g (by have := HU.out.2.2 g hg; omega))
  have H4 := toHid (show _ ∧ _ ∧ _ ∧ _ from ⟨T4, z4, kr4, u4⟩)
  have HPF := toHid (show (failA p fl).w = W ∧ (failA p fl).rows.length = H from by
    obtain ⟨o1, o2, o3, o4⟩ := fail_ok (n := fl) HT.out.1.ok f1 f2
    exact ⟨by rw [o3]; exact HPP.out.1, by rw [o4]; exact HPP.out.2⟩)
  have HBLK := kr4
  have HNF : ¬ Foot2 b rb rv rrv w1.heap.size := HP3.out.2.2.2.2.2.2 _ hsz1
  clear T4 z4 kr4 u4 r4 x4 d10
  go_upto_region 13 with fail
  clear tm
  have SK : Hid (∀ w', Ext (Foot2 b rb rv rrv) w4 w' → (w'.cell? ⟨w1.heap.size, 0, none⟩ = some (.int .i64 (X : Int)) ∧ w'.cell? ⟨w1.heap.size, 1, none⟩ = some (.int .i64 (Y : Int)) ∧ w'.cell? ⟨w1.heap.size, 2, none⟩ = some (.int .i64 (rW : Int)) ∧ w'.cell? ⟨w1.heap.size, 3, none⟩ = some (.int .i64 (rH : Int)))) := fun w' e => by
    have kk := (e.block _ (lt_of_heap HBLK) HNF).trans HBLK
    exact ⟨cell_of_blk kk 0, cell_of_blk kk 1, cell_of_blk kk 2, cell_of_blk kk 3⟩
  have HTK := toHid (H4.out.1)
  have HUK := toHid (show Reads w4 u (madeA xs rW rH) ∧ U64 (madeA xs rW rH) ∧ (∀ g, u.ownBlock = some g → ¬ Foot b rv g) ∧ (∀ g, u.ownBlock = some g → ¬ Foot rb rrv g) from ⟨H4.out.2.2.2, HU.out.2.1, fun g hg z => by have := HU.out.2.2 g hg; have := (HT.out.1.foot _ (.inl z)).2; omega, fun g hg z => by have := HU.out.2.2 g hg; have := (HT.out.1.foot _ (.inr z)).2; omega⟩)
  clear HBLK HNF
  refine wp_region_head 8 (fun w' => (w'.cell? ⟨w1.heap.size, 0, none⟩ = some (.int .i64 (X : Int)) ∧ w'.cell? ⟨w1.heap.size, 1, none⟩ = some (.int .i64 (Y : Int)) ∧ w'.cell? ⟨w1.heap.size, 2, none⟩ = some (.int .i64 (rW : Int)) ∧ w'.cell? ⟨w1.heap.size, 3, none⟩ = some (.int .i64 (rH : Int)))) (by kernel_rfl) (by kernel_rfl) (SK.out _ (Ext.refl _ _).drew) (fun hO hHeld => ?_)
  refine wpAnyT_takeD (i := 0) (d := some 80) (v := ?_) hO rfl rfl (by kernel_rfl) (fun _ _ _ h => h) (Or.inl ⟨by rfl, ?_⟩) (by exact hHeld) ?_
  rotate_left
  · intro w' hSw
    obtain ⟨z1, z2, z3, z4⟩ := hSw
    go_simp
    try (with_reducible rfl)
  try simp only [Act.put, List.setIfInBounds_toArray, List.set_cons_zero, List.set_cons_succ]
  refine wpAnyT_takeD (i := 1) (d := some 81) (v := ?_) hO rfl rfl (by kernel_rfl) (fun _ _ _ h => h) (Or.inl ⟨by rfl, ?_⟩) (by exact hHeld) ?_
  rotate_left
  · intro w' hSw
    obtain ⟨z1, z2, z3, z4⟩ := hSw
    go_simp
    try (with_reducible rfl)
  try simp only [Act.put, List.setIfInBounds_toArray, List.set_cons_zero, List.set_cons_succ]
  refine wpAnyT_takeD (i := 2) (d := some 82) (v := ?_) hO rfl rfl (by kernel_rfl) (fun _ _ _ h => h) (Or.inl ⟨by rfl, ?_⟩) (by exact hHeld) ?_
  rotate_left
  · intro w' hSw
    obtain ⟨z1, z2, z3, z4⟩ := hSw
    go_simp
    try (with_reducible rfl)
  try simp only [Act.put, List.setIfInBounds_toArray, List.set_cons_zero, List.set_cons_succ]
  refine wpAnyT_takeD (i := 4) (d := some 84) (v := ?_) hO rfl rfl (by kernel_rfl) (fun _ _ _ h => h) (Or.inl ⟨by rfl, ?_⟩) (by exact hHeld) ?_
  rotate_left
  · intro w' hSw
    obtain ⟨z1, z2, z3, z4⟩ := hSw
    go_simp
    try (with_reducible rfl)
  try simp only [Act.put, List.setIfInBounds_toArray, List.set_cons_zero, List.set_cons_succ]
  refine wpAnyT_takeD (i := 5) (d := some 85) (v := ?_) hO rfl rfl (by kernel_rfl) (fun _ _ _ h => h) (Or.inl ⟨by rfl, ?_⟩) (by exact hHeld) ?_
  rotate_left
  · intro w' hSw
    obtain ⟨z1, z2, z3, z4⟩ := hSw
    go_simp
    try (with_reducible rfl)
  try simp only [Act.put, List.setIfInBounds_toArray, List.set_cons_zero, List.set_cons_succ]
  refine wpAnyT_takeD (i := 6) (d := some 86) (v := ?_) hO rfl rfl (by kernel_rfl) (fun _ _ _ h => h) (Or.inl ⟨by rfl, ?_⟩) (by exact hHeld) ?_
  rotate_left
  · intro w' hSw
    obtain ⟨z1, z2, z3, z4⟩ := hSw
    go_simp
    try (with_reducible rfl)
  try simp only [Act.put, List.setIfInBounds_toArray, List.set_cons_zero, List.set_cons_succ]
  clear hHeld
  refine wpAnyT_one (i := 3) rfl (by kernel_rfl) (by rfl) (fun K hK => ?_)
  go_simp
  refine (write_calls (c := ⟨X, Y, rW, rH⟩) (HTK.out.pan.ext (Ext.refl Nope _).drew (fun _ _ z => z)) HTK.out.ok (HUK.out.1.ext0 (Ext.refl Nope _).drew) HUK.out.2.2.1 HUK.out.2.1 hmi (by rw [madeA_length]; omega)).mono ?_
  rintro e w6 ⟨rfl, g5, g6⟩
  have h6 : WriteOf w4.drew base b rv _ _ w6 := ⟨rfl, g5, g6⟩
  have z6 : Ext (Foot2 b rb rv rrv) w4 w6 := (Ext.refl _ _).drew.trans (g6.mono (fun _ z => .inl z)) (fun _ _ z => z)
  have r6 := (HTK.out.ref.ext (Ext.refl Nope _).drew (fun _ _ z => z)).ext g6 (fun k hk z => HTK.out.apart k z hk)
  have u6 := (HUK.out.1.ext0 (Ext.refl Nope _).drew).ext g6 HUK.out.2.2.1
  have H6 := toHid (show _ ∧ _ ∧ _ from ⟨h6, r6, u6⟩)
  clear g5 g6 h6 r6 u6
  try go_simp
  refine hK.out _ _ (SK.out _ z6) (fun hHeld => ?_)
  clear hK K hHeld
  try simp only [Act.put, List.setIfInBounds_toArray, List.set_cons_zero, List.set_cons_succ]
  refine wpAnyT_one (i := 7) rfl (by kernel_rfl) (by rfl) (fun K hK => ?_)
  go_simp
  refine (rwrite_calls (c := ⟨X, Y, rW, rH⟩) H6.out.2.1 (rel_ok HTK.out.rel HTK.out.ok) H6.out.2.2 HUK.out.2.2.2 HUK.out.2.1 hmi (by rw [madeA_length]; omega)).mono ?_
  rintro e w7 ⟨rfl, g7, g8⟩
  have h7 : RWriteOf w6 base rb rrv _ _ w7 := ⟨rfl, g7, g8⟩
  have z7 : Ext (Foot2 b rb rv rrv) w4 w7 := z6.trans (g8.mono (fun _ z => .inr z)) (fun _ _ z => z)
  obtain ⟨tq1, tq2, _⟩ := Twin.write (HTK.out.ext (Ext.refl Nope _).drew) (by omega) H6.out.1 h7
  obtain ⟨_, _, o3, o4⟩ := write_ok (c := ⟨X, Y, rW, rH⟩) (xs := (madeA xs rW rH)) HTK.out.ok HTK.out.many (by omega)
  rw [tq1]
  have H7 := toHid (show _ ∧ _ ∧ _ ∧ _ from ⟨tq2, o3, o4, z7⟩)
  clear g7 g8 h7 z6
  try go_simp
  refine hK.out _ _ (SK.out _ z7) (fun hHeld => ?_)
  clear hK K hHeld z7
  try simp only [Act.put, List.setIfInBounds_toArray, List.set_cons_zero, List.set_cons_succ]
  refine wpAnyT_done (by kernel_rfl) ⟨by kernel_rfl, ?_⟩
  simp only [List.drop_succ_cons, List.drop_zero]
  go_wp2
  go_ret
  exact ⟨rfl, ⟨_, _, H7.out.1, by rw [H7.out.2.1]; exact HPF.out.1, by rw [H7.out.2.2.1]; exact HPF.out.2⟩, ((HE.out.1.mono (fun _ z => z.elim)).trans H4.out.2.1 (fun _ _ z => z)).trans H7.out.2.2.2 (fun _ _ z => z)⟩
section
attribute [local go_sem ↓] run_mn run_mx
set_option maxRecDepth 100000 in
set_option maxHeartbeats 4000000 in
theorem do_one {w : World} {base b rb M : Nat} {rv rrv : Value} {p : Pan} {r : Ref} {c : R} {av : Option Addr} {ln cap : Nat} {xs : List Nat} (what q0 q1 q2 q3 fl : Int) (hTw : Twin w base b rb rv rrv p r M) (hM : M + 1 ≤ 1000000) (hr : Reads w (.slice av ln cap) xs) (hu : U64 xs) (hc : c.i64) (w0 : 0 ≤ what ∧ what ≤ 255) (a0 : 0 ≤ q0 ∧ q0 ≤ 255) (a1 : 0 ≤ q1 ∧ q1 ≤ 255) (a2 : 0 ≤ q2 ∧ q2 ≤ 255) (a3 : 0 ≤ q3 ∧ q3 ≤ 255) (f1 : -9223372036854775808 ≤ fl) (f2 : fl ≤ 9223372036854775807) (W H : Nat) (hW1 : 1 ≤ W) (hW2 : W ≤ 64) (hH1 : 1 ≤ H) (hH2 : H ≤ 64) (hpw : p.w = W) (hph : p.rows.length = H) (hwh : what % 5 = 1) :
    Calls Tryd.prog 14 #[.agg #[.int .u8 what, .int .u8 q0, .int .u8 q1, .int .u8 q2, .int .u8 q3, .int .i64 c.x, .int .i64 c.y, .int .i64 c.w, .int .i64 c.h, .slice av ln cap, .int .i64 fl], ptr b, ptr rb, .int .i64 W, .int .i64 H] w (DoOf w base b rb rv rrv M W H) := by
  have HT := toHid (show _ ∧ _ from ⟨hTw, hr⟩)
  have HPP := toHid (show _ ∧ _ from ⟨hpw, hph⟩)
  have hln : ln ≤ 9223372036854775807 ∧ xs.length = ln ∧ ln ≤ cap := by obtain ⟨a', c', e1, e2, e3, _⟩ := hr; injection e1 with _ e5 e6; omega
  have HLN := toHid hln
  have HWH := toHid hwh
  clear hpw hph hTw hr hln hwh
  go_enter Tryd.func14, Tryd.ntmps14
  go_wp2_with fail
  have e0 : Ext Nope w (w.alloc (.cells #[.int .u8 what, .int .u8 q0, .int .u8 q1, .int .u8 q2, .int .u8 q3, .int .i64 c.x, .int .i64 c.y, .int .i64 c.w, .int .i64 c.h, .slice av ln cap, .int .i64 fl] 34)) := (Ext.refl _ _).alloc _
  have k0 := heap_alloc_new w (.cells #[.int .u8 what, .int .u8 q0, .int .u8 q1, .int .u8 q2, .int .u8 q3, .int .i64 c.x, .int .i64 c.y, .int .i64 c.w, .int .i64 c.h, .slice av ln cap, .int .i64 fl] 34)
  have hin : inB (madeR q0 q1 q2 q3 W H) W H = true := madeR_in (by omega) (by omega)
  have hmi := mader_i64 (q0 := q0) (q1 := q1) (q2 := q2) (q3 := q3) (w := W) (h := H) a0 a1 a2 a3 (by omega) (by omega) (by omega) (by omega)
  refine (mader_calls q0 q1 q2 q3 W H _ a0 a1 a2 a3 (by omega) (by omega) (by omega) (by omega)).mono ?_
  rintro e w1 ⟨rfl, x1⟩
  obtain ⟨X, Y, rW, rH, hre, g1, g2, g3, g4⟩ := inB_nat hin
  rw [hre] at hmi ⊢
  clear hin hre
  have k1 := (x1.block _ (by simp) (fun z => z)).trans k0
  have e1 := ext0 e0 x1
  clear e0 x1 k0
  have k2 := (heap_alloc_old w1 (.cells #[.int .i64 (X : Int), .int .i64 (Y : Int), .int .i64 (rW : Int), .int .i64 (rH : Int)] 31) _ (lt_of_heap k1)).trans k1
  have kr := heap_alloc_new w1 (.cells #[.int .i64 (X : Int), .int .i64 (Y : Int), .int .i64 (rW : Int), .int .i64 (rH : Int)] 31)
  have b9 := cell_of_blk k1 9
  have hlt1 := lt_of_heap k1
  go_wp2_with fail
  refine (made_calls ((HT.out.2.ext0 e1).ext0 ((Ext.refl _ _).alloc _)) hu rW rH g1 (by omega) g2 (by omega) (by rw [HLN.out.2.1]; exact HLN.out.1)).mono ?_
  rintro e w2 ⟨u, rfl, ru, x2⟩
  have k3 := (x2.block _ (lt_of_heap k2) (fun z => z)).trans k2
  have kr3 := (x2.block _ (lt_of_heap kr) (fun z => z)).trans kr
  have e2 := ext0 (e1.alloc (.cells #[.int .i64 (X : Int), .int .i64 (Y : Int), .int .i64 (rW : Int), .int .i64 (rH : Int)] 31)) x2
  have hub : ∀ g, u.ownBlock = some g → w1.heap.size + 1 ≤ g := fun g hg => by have := (World.ownsRow.lt ru g hg).1; simpa using this
  have HU := toHid (show _ ∧ _ ∧ _ from ⟨ru.reads, madeA_u64 hu rW rH, hub⟩)
  clear x2 k1 k2 kr b9 ru hub
  have hsz1 : w.heap.size ≤ w1.heap.size := e1.size
  have HE := toHid (show _ ∧ _ ∧ _ from ⟨e2, k3, kr3⟩)
  have c0 := cell_of_blk k3 0
  have c10 := cell_of_blk k3 10
  clear e1 e2 k3 kr3
  obtain ⟨z, hz⟩ : ∃ z, what % 5 = z := ⟨_, rfl⟩
  have hzb : 0 ≤ z ∧ z < 5 := by omega
  have HWZ := HWH.out
  rw [hz] at HWZ
  have HZ := toHid hz
  clear hz
  obtain rfl : z = 1 := HWZ
  have tm : what.tmod 5 = 1 := by rw [Int.tmod_eq_emod_of_nonneg w0.1]; exact HZ.out
  obtain ⟨n8, h8⟩ : ∃ n8 : Nat, mnI (ln : Int) 8 = (n8 : Int) := ⟨min ln 8, by rw [mnI_eq]; omega⟩
  have h8b : n8 ≤ ln ∧ n8 ≤ 8 := by rw [mnI_eq] at h8; omega
  have hcp := HLN.out.2.2
  have c9 := cell_of_blk HE.out.2.1 9
  have hlt2 : w.heap.size < w2.heap.size := lt_of_heap HE.out.2.1
  have R8 := toHid (((HT.out.2.ext0 HE.out.1).take n8 h8b.1).ext0 ((Ext.refl Nope w2).alloc (.cells #[] 63)))
  have hl8 : (xs.take n8).length ≤ 100000 := by rw [List.length_take]; omega
  go_wp2_with (first | (at_builtin; refine wpList_take (by rfl) (fun K hK => ?_); refine wp_joinU (.tmp 40) (.tmp 47) rfl w2.heap.size rfl (heap_alloc_new w2 _) _ rfl (xs.take n8) R8.out hl8 w2.heap.size (Nat.le_refl _) ?_))
  intro u8 w8 hr8 he8 _ _ hv8
  refine hK _ _ ?_
  have E8 : Ext Nope w2 w8 := ext0 ((Ext.refl _ _).alloc _) he8
  have kz := (E8.block _ (lt_of_heap HE.out.2.1) (fun z => z)).trans HE.out.2.1
  have kr8 := (E8.block _ (lt_of_heap HE.out.2.2) (fun z => z)).trans HE.out.2.2
  have hub : ∀ g, u8.ownBlock = some g → w2.heap.size ≤ g := fun g hg => (World.ownsRow.lt hr8 g hg).1
  have hsz2 : w.heap.size ≤ w2.heap.size := HE.out.1.size
  have H8 := toHid (show _ ∧ _ ∧ _ ∧ _ ∧ _ from ⟨ext0 HE.out.1 E8, kz, kr8, RowsAt.reads hr8, hub⟩)
  have HU8 := toHid (show U64 (xs.take n8) from hu.sub fun x hx => List.mem_of_mem_take hx)
  clear hv8 hr8 he8 E8 kz kr8 hub c9 c0 c10 R8 h8
  have HBLK := H8.out.2.2.1
  have HNF : ¬ Foot2 b rb rv rrv w1.heap.size := fun z => by have := (HT.out.1.foot _ z).2; omega
  go_upto_region 9 with fail
  clear tm
  have SK : Hid (∀ w', Ext (Foot2 b rb rv rrv) w8 w' → (w'.cell? ⟨w1.heap.size, 0, none⟩ = some (.int .i64 (X : Int)) ∧ w'.cell? ⟨w1.heap.size, 1, none⟩ = some (.int .i64 (Y : Int)) ∧ w'.cell? ⟨w1.heap.size, 2, none⟩ = some (.int .i64 (rW : Int)) ∧ w'.cell? ⟨w1.heap.size, 3, none⟩ = some (.int .i64 (rH : Int)))) := fun w' e => by
    have kk := (e.block _ (lt_of_heap HBLK) HNF).trans HBLK
    exact ⟨cell_of_blk kk 0, cell_of_blk kk 1, cell_of_blk kk 2, cell_of_blk kk 3⟩
  have HTK := toHid (HT.out.1.ext H8.out.1)
  have HUK := toHid (show Reads w8 u8 (xs.take n8) ∧ U64 (xs.take n8) ∧ (∀ g, u8.ownBlock = some g → ¬ Foot b rv g) ∧ (∀ g, u8.ownBlock = some g → ¬ Foot rb rrv g) from ⟨H8.out.2.2.2.1, HU8.out, fun g hg z => by have := H8.out.2.2.2.2 g hg; have := (HT.out.1.foot _ (.inl z)).2; omega, fun g hg z => by have := H8.out.2.2.2.2 g hg; have := (HT.out.1.foot _ (.inr z)).2; omega⟩)
  clear HBLK HNF
  refine wp_region_head 8 (fun w' => (w'.cell? ⟨w1.heap.size, 0, none⟩ = some (.int .i64 (X : Int)) ∧ w'.cell? ⟨w1.heap.size, 1, none⟩ = some (.int .i64 (Y : Int)) ∧ w'.cell? ⟨w1.heap.size, 2, none⟩ = some (.int .i64 (rW : Int)) ∧ w'.cell? ⟨w1.heap.size, 3, none⟩ = some (.int .i64 (rH : Int)))) (by kernel_rfl) (by kernel_rfl) (SK.out _ (Ext.refl _ _).drew) (fun hO hHeld => ?_)
  refine wpAnyT_takeD (i := 0) (d := some 49) (v := ?_) hO rfl rfl (by kernel_rfl) (fun _ _ _ h => h) (Or.inl ⟨by rfl, ?_⟩) (by exact hHeld) ?_
  rotate_left
  · intro w' hSw
    obtain ⟨z1, z2, z3, z4⟩ := hSw
    go_simp
    try (with_reducible rfl)
  try simp only [Act.put, List.setIfInBounds_toArray, List.set_cons_zero, List.set_cons_succ]
  refine wpAnyT_takeD (i := 1) (d := some 50) (v := ?_) hO rfl rfl (by kernel_rfl) (fun _ _ _ h => h) (Or.inl ⟨by rfl, ?_⟩) (by exact hHeld) ?_
  rotate_left
  · intro w' hSw
    obtain ⟨z1, z2, z3, z4⟩ := hSw
    go_simp
    try (with_reducible rfl)
  try simp only [Act.put, List.setIfInBounds_toArray, List.set_cons_zero, List.set_cons_succ]
  refine wpAnyT_takeD (i := 2) (d := some 51) (v := ?_) hO rfl rfl (by kernel_rfl) (fun _ _ _ h => h) (Or.inl ⟨by rfl, ?_⟩) (by exact hHeld) ?_
  rotate_left
  · intro w' hSw
    obtain ⟨z1, z2, z3, z4⟩ := hSw
    go_simp
    try (with_reducible rfl)
  try simp only [Act.put, List.setIfInBounds_toArray, List.set_cons_zero, List.set_cons_succ]
  refine wpAnyT_takeD (i := 4) (d := some 53) (v := ?_) hO rfl rfl (by kernel_rfl) (fun _ _ _ h => h) (Or.inl ⟨by rfl, ?_⟩) (by exact hHeld) ?_
  rotate_left
  · intro w' hSw
    obtain ⟨z1, z2, z3, z4⟩ := hSw
    go_simp
    try (with_reducible rfl)
  try simp only [Act.put, List.setIfInBounds_toArray, List.set_cons_zero, List.set_cons_succ]
  refine wpAnyT_takeD (i := 5) (d := some 54) (v := ?_) hO rfl rfl (by kernel_rfl) (fun _ _ _ h => h) (Or.inl ⟨by rfl, ?_⟩) (by exact hHeld) ?_
  rotate_left
  · intro w' hSw
    obtain ⟨z1, z2, z3, z4⟩ := hSw
    go_simp
    try (with_reducible rfl)
  try simp only [Act.put, List.setIfInBounds_toArray, List.set_cons_zero, List.set_cons_succ]
  refine wpAnyT_takeD (i := 6) (d := some 55) (v := ?_) hO rfl rfl (by kernel_rfl) (fun _ _ _ h => h) (Or.inl ⟨by rfl, ?_⟩) (by exact hHeld) ?_
  rotate_left
  · intro w' hSw
    obtain ⟨z1, z2, z3, z4⟩ := hSw
    go_simp
    try (with_reducible rfl)
  try simp only [Act.put, List.setIfInBounds_toArray, List.set_cons_zero, List.set_cons_succ]
  clear hHeld
  refine wpAnyT_one (i := 3) rfl (by kernel_rfl) (by rfl) (fun K hK => ?_)
  go_simp
  refine (write_calls (c := ⟨X, Y, rW, rH⟩) (HTK.out.pan.ext (Ext.refl Nope _).drew (fun _ _ z => z)) HTK.out.ok (HUK.out.1.ext0 (Ext.refl Nope _).drew) HUK.out.2.2.1 HUK.out.2.1 hmi hl8).mono ?_
  rintro e w6 ⟨rfl, g5, g6⟩
  have h6 : WriteOf w8.drew base b rv _ _ w6 := ⟨rfl, g5, g6⟩
  have z6 : Ext (Foot2 b rb rv rrv) w8 w6 := (Ext.refl _ _).drew.trans (g6.mono (fun _ z => .inl z)) (fun _ _ z => z)
  have r6 := (HTK.out.ref.ext (Ext.refl Nope _).drew (fun _ _ z => z)).ext g6 (fun k hk z => HTK.out.apart k z hk)
  have u6 := (HUK.out.1.ext0 (Ext.refl Nope _).drew).ext g6 HUK.out.2.2.1
  have H6 := toHid (show _ ∧ _ ∧ _ from ⟨h6, r6, u6⟩)
  clear g5 g6 h6 r6 u6
  try go_simp
  refine hK.out _ _ (SK.out _ z6) (fun hHeld => ?_)
  clear hK K hHeld
  try simp only [Act.put, List.setIfInBounds_toArray, List.set_cons_zero, List.set_cons_succ]
  refine wpAnyT_one (i := 7) rfl (by kernel_rfl) (by rfl) (fun K hK => ?_)
  go_simp
  refine (rwrite_calls (c := ⟨X, Y, rW, rH⟩) H6.out.2.1 (rel_ok HTK.out.rel HTK.out.ok) H6.out.2.2 HUK.out.2.2.2 HUK.out.2.1 hmi hl8).mono ?_
  rintro e w7 ⟨rfl, g7, g8⟩
  have h7 : RWriteOf w6 base rb rrv _ _ w7 := ⟨rfl, g7, g8⟩
  have z7 : Ext (Foot2 b rb rv rrv) w8 w7 := z6.trans (g8.mono (fun _ z => .inr z)) (fun _ _ z => z)
  obtain ⟨tq1, tq2, _⟩ := Twin.write (HTK.out.ext (Ext.refl Nope _).drew) (by omega) H6.out.1 h7
  obtain ⟨_, _, o3, o4⟩ := write_ok (c := ⟨X, Y, rW, rH⟩) (xs := (xs.take n8)) HTK.out.ok HTK.out.many (by omega)
  rw [tq1]
  have H7 := toHid (show _ ∧ _ ∧ _ ∧ _ from ⟨tq2, o3, o4, z7⟩)
  clear g7 g8 h7 z6
  try go_simp
  refine hK.out _ _ (SK.out _ z7) (fun hHeld => ?_)
  clear hK K hHeld z7
  try simp only [Act.put, List.setIfInBounds_toArray, List.set_cons_zero, List.set_cons_succ]
  refine wpAnyT_done (by kernel_rfl) ⟨by kernel_rfl, ?_⟩
  simp only [List.drop_succ_cons, List.drop_zero]
  go_wp2
  go_ret
  exact ⟨rfl, ⟨_, _, H7.out.1, by rw [H7.out.2.1]; exact HPP.out.1, by rw [H7.out.2.2.1]; exact HPP.out.2⟩, (H8.out.1.mono (fun _ z => z.elim)).trans H7.out.2.2.2 (fun _ _ z => z)⟩

set_option maxRecDepth 100000 in
set_option maxHeartbeats 4000000 in
theorem do_two {w : World} {base b rb M : Nat} {rv rrv : Value} {p : Pan} {r : Ref} {c : R} {av : Option Addr} {ln cap : Nat} {xs : List Nat} (what q0 q1 q2 q3 fl : Int) (hTw : Twin w base b rb rv rrv p r M) (hM : M + 1 ≤ 1000000) (hr : Reads w (.slice av ln cap) xs) (hu : U64 xs) (hc : c.i64) (w0 : 0 ≤ what ∧ what ≤ 255) (a0 : 0 ≤ q0 ∧ q0 ≤ 255) (a1 : 0 ≤ q1 ∧ q1 ≤ 255) (a2 : 0 ≤ q2 ∧ q2 ≤ 255) (a3 : 0 ≤ q3 ∧ q3 ≤ 255) (f1 : -9223372036854775808 ≤ fl) (f2 : fl ≤ 9223372036854775807) (W H : Nat) (hW1 : 1 ≤ W) (hW2 : W ≤ 64) (hH1 : 1 ≤ H) (hH2 : H ≤ 64) (hpw : p.w = W) (hph : p.rows.length = H) (hwh : what % 5 = 2) :
    Calls Tryd.prog 14 #[.agg #[.int .u8 what, .int .u8 q0, .int .u8 q1, .int .u8 q2, .int .u8 q3, .int .i64 c.x, .int .i64 c.y, .int .i64 c.w, .int .i64 c.h, .slice av ln cap, .int .i64 fl], ptr b, ptr rb, .int .i64 W, .int .i64 H] w (DoOf w base b rb rv rrv M W H) := by
  have HT := toHid (show _ ∧ _ from ⟨hTw, hr⟩)
  have HPP := toHid (show _ ∧ _ from ⟨hpw, hph⟩)
  have hln : ln ≤ 9223372036854775807 ∧ xs.length = ln ∧ ln ≤ cap := by obtain ⟨a', c', e1, e2, e3, _⟩ := hr; injection e1 with _ e5 e6; omega
  have HLN := toHid hln
  have HWH := toHid hwh
  clear hpw hph hTw hr hln hwh
  go_enter Tryd.func14, Tryd.ntmps14
  go_wp2_with fail
  have e0 : Ext Nope w (w.alloc (.cells #[.int .u8 what, .int .u8 q0, .int .u8 q1, .int .u8 q2, .int .u8 q3, .int .i64 c.x, .int .i64 c.y, .int .i64 c.w, .int .i64 c.h, .slice av ln cap, .int .i64 fl] 34)) := (Ext.refl _ _).alloc _
  have k0 := heap_alloc_new w (.cells #[.int .u8 what, .int .u8 q0, .int .u8 q1, .int .u8 q2, .int .u8 q3, .int .i64 c.x, .int .i64 c.y, .int .i64 c.w, .int .i64 c.h, .slice av ln cap, .int .i64 fl] 34)
  have hin : inB (madeR q0 q1 q2 q3 W H) W H = true := madeR_in (by omega) (by omega)
  have hmi := mader_i64 (q0 := q0) (q1 := q1) (q2 := q2) (q3 := q3) (w := W) (h := H) a0 a1 a2 a3 (by omega) (by omega) (by omega) (by omega)
  refine (mader_calls q0 q1 q2 q3 W H _ a0 a1 a2 a3 (by omega) (by omega) (by omega) (by omega)).mono ?_
  rintro e w1 ⟨rfl, x1⟩
  obtain ⟨X, Y, rW, rH, hre, g1, g2, g3, g4⟩ := inB_nat hin
  rw [hre] at hmi ⊢
  clear hin hre
  have k1 := (x1.block _ (by simp) (fun z => z)).trans k0
  have e1 := ext0 e0 x1
  clear e0 x1 k0
  have k2 := (heap_alloc_old w1 (.cells #[.int .i64 (X : Int), .int .i64 (Y : Int), .int .i64 (rW : Int), .int .i64 (rH : Int)] 31) _ (lt_of_heap k1)).trans k1
  have kr := heap_alloc_new w1 (.cells #[.int .i64 (X : Int), .int .i64 (Y : Int), .int .i64 (rW : Int), .int .i64 (rH : Int)] 31)
  have b9 := cell_of_blk k1 9
  have hlt1 := lt_of_heap k1
  go_wp2_with fail
  refine (made_calls ((HT.out.2.ext0 e1).ext0 ((Ext.refl _ _).alloc _)) hu rW rH g1 (by omega) g2 (by omega) (by rw [HLN.out.2.1]; exact HLN.out.1)).mono ?_
  rintro e w2 ⟨u, rfl, ru, x2⟩
  have k3 := (x2.block _ (lt_of_heap k2) (fun z => z)).trans k2
  have kr3 := (x2.block _ (lt_of_heap kr) (fun z => z)).trans kr
  have e2 := ext0 (e1.alloc (.cells #[.int .i64 (X : Int), .int .i64 (Y : Int), .int .i64 (rW : Int), .int .i64 (rH : Int)] 31)) x2
  have hub : ∀ g, u.ownBlock = some g → w1.heap.size + 1 ≤ g := fun g hg => by have := (World.ownsRow.lt ru g hg).1; simpa using this
  have HU := toHid (show _ ∧ _ ∧ _ from ⟨ru.reads, madeA_u64 hu rW rH, hub⟩)
  clear x2 k1 k2 kr b9 ru hub
  have hsz1 : w.heap.size ≤ w1.heap.size := e1.size
  have HE := toHid (show _ ∧ _ ∧ _ from ⟨e2, k3, kr3⟩)
  have c0 := cell_of_blk k3 0
  have c10 := cell_of_blk k3 10
  clear e1 e2 k3 kr3
  obtain ⟨z, hz⟩ : ∃ z, what % 5 = z := ⟨_, rfl⟩
  have hzb : 0 ≤ z ∧ z < 5 := by omega
  have HWZ := HWH.out
  rw [hz] at HWZ
  have HZ := toHid hz
  clear hz
  obtain rfl : z = 2 := HWZ
  have tm : what.tmod 5 = 2 := by rw [Int.tmod_eq_emod_of_nonneg w0.1]; exact HZ.out
  obtain ⟨n8, h8⟩ : ∃ n8 : Nat, mnI (ln : Int) 8 = (n8 : Int) := ⟨min ln 8, by rw [mnI_eq]; omega⟩
  have h8b : n8 ≤ ln ∧ n8 ≤ 8 := by rw [mnI_eq] at h8; omega
  have hcp := HLN.out.2.2
  have c9 := cell_of_blk HE.out.2.1 9
  have hlt2 : w.heap.size < w2.heap.size := lt_of_heap HE.out.2.1
  have R8 := toHid (((HT.out.2.ext0 HE.out.1).take n8 h8b.1).ext0 ((Ext.refl Nope w2).alloc (.cells #[] 63)))
  have hl8 : (xs.take n8).length ≤ 100000 := by rw [List.length_take]; omega
  go_wp2_with (first | (at_builtin; refine wpList_take (by rfl) (fun K hK => ?_); refine wp_joinU (.tmp 60) (.tmp 67) rfl w2.heap.size rfl (heap_alloc_new w2 _) _ rfl (xs.take n8) R8.out hl8 w2.heap.size (Nat.le_refl _) ?_))
  intro u8 w8 hr8 he8 _ _ hv8
  refine hK _ _ ?_
  have E8 : Ext Nope w2 w8 := ext0 ((Ext.refl _ _).alloc _) he8
  have kz := (E8.block _ (lt_of_heap HE.out.2.1) (fun z => z)).trans HE.out.2.1
  have kr8 := (E8.block _ (lt_of_heap HE.out.2.2) (fun z => z)).trans HE.out.2.2
  have hub : ∀ g, u8.ownBlock = some g → w2.heap.size ≤ g := fun g hg => (World.ownsRow.lt hr8 g hg).1
  have hsz2 : w.heap.size ≤ w2.heap.size := HE.out.1.size
  have H8 := toHid (show _ ∧ _ ∧ _ ∧ _ ∧ _ from ⟨ext0 HE.out.1 E8, kz, kr8, RowsAt.reads hr8, hub⟩)
  have HU8 := toHid (show U64 (xs.take n8) from hu.sub fun x hx => List.mem_of_mem_take hx)
  clear hv8 hr8 he8 E8 kz kr8 hub c9 c0 c10 R8 h8
  have HBLK := H8.out.2.1
  have HNF : ¬ Foot2 b rb rv rrv w.heap.size := fun z => by have := (HT.out.1.foot _ z).2; omega
  go_upto_region 12 with fail
  clear tm
  have SK : Hid (∀ w', Ext (Foot2 b rb rv rrv) w8 w' → (w'.cell? ⟨w.heap.size, 5, none⟩ = some (.int .i64 c.x) ∧ w'.cell? ⟨w.heap.size, 6, none⟩ = some (.int .i64 c.y) ∧ w'.cell? ⟨w.heap.size, 7, none⟩ = some (.int .i64 c.w) ∧ w'.cell? ⟨w.heap.size, 8, none⟩ = some (.int .i64 c.h))) := fun w' e => by
    have kk := (e.block _ (lt_of_heap HBLK) HNF).trans HBLK
    exact ⟨cell_of_blk kk 5, cell_of_blk kk 6, cell_of_blk kk 7, cell_of_blk kk 8⟩
  have HTK := toHid (HT.out.1.ext H8.out.1)
  have HUK := toHid (show Reads w8 u8 (xs.take n8) ∧ U64 (xs.take n8) ∧ (∀ g, u8.ownBlock = some g → ¬ Foot b rv g) ∧ (∀ g, u8.ownBlock = some g → ¬ Foot rb rrv g) from ⟨H8.out.2.2.2.1, HU8.out, fun g hg z => by have := H8.out.2.2.2.2 g hg; have := (HT.out.1.foot _ (.inl z)).2; omega, fun g hg z => by have := H8.out.2.2.2.2 g hg; have := (HT.out.1.foot _ (.inr z)).2; omega⟩)
  clear HBLK HNF
  refine wp_region_head 10 (fun w' => (w'.cell? ⟨w.heap.size, 5, none⟩ = some (.int .i64 c.x) ∧ w'.cell? ⟨w.heap.size, 6, none⟩ = some (.int .i64 c.y) ∧ w'.cell? ⟨w.heap.size, 7, none⟩ = some (.int .i64 c.w) ∧ w'.cell? ⟨w.heap.size, 8, none⟩ = some (.int .i64 c.h))) (by kernel_rfl) (by kernel_rfl) (SK.out _ (Ext.refl _ _).drew) (fun hO hHeld => ?_)
  refine wpAnyT_takeD (i := 0) (d := some 69) (v := ?_) hO rfl rfl (by kernel_rfl) (fun _ _ _ h => h) (Or.inl ⟨by rfl, ?_⟩) (by exact hHeld) ?_
  rotate_left
  · intro w' hSw
    obtain ⟨z1, z2, z3, z4⟩ := hSw
    go_simp
    try (with_reducible rfl)
  try simp only [Act.put, List.setIfInBounds_toArray, List.set_cons_zero, List.set_cons_succ]
  refine wpAnyT_takeD (i := 1) (d := some 70) (v := ?_) hO rfl rfl (by kernel_rfl) (fun _ _ _ h => h) (Or.inl ⟨by rfl, ?_⟩) (by exact hHeld) ?_
  rotate_left
  · intro w' hSw
    obtain ⟨z1, z2, z3, z4⟩ := hSw
    go_simp
    try (with_reducible rfl)
  try simp only [Act.put, List.setIfInBounds_toArray, List.set_cons_zero, List.set_cons_succ]
  refine wpAnyT_takeD (i := 2) (d := some 71) (v := ?_) hO rfl rfl (by kernel_rfl) (fun _ _ _ h => h) (Or.inl ⟨by rfl, ?_⟩) (by exact hHeld) ?_
  rotate_left
  · intro w' hSw
    obtain ⟨z1, z2, z3, z4⟩ := hSw
    go_simp
    try (with_reducible rfl)
  try simp only [Act.put, List.setIfInBounds_toArray, List.set_cons_zero, List.set_cons_succ]
  refine wpAnyT_takeD (i := 3) (d := some 72) (v := ?_) hO rfl rfl (by kernel_rfl) (fun _ _ _ h => h) (Or.inl ⟨by rfl, ?_⟩) (by exact hHeld) ?_
  rotate_left
  · intro w' hSw
    obtain ⟨z1, z2, z3, z4⟩ := hSw
    go_simp
    try (with_reducible rfl)
  try simp only [Act.put, List.setIfInBounds_toArray, List.set_cons_zero, List.set_cons_succ]
  refine wpAnyT_takeD (i := 5) (d := some 74) (v := ?_) hO rfl rfl (by kernel_rfl) (fun _ _ _ h => h) (Or.inl ⟨by rfl, ?_⟩) (by exact hHeld) ?_
  rotate_left
  · intro w' hSw
    obtain ⟨z1, z2, z3, z4⟩ := hSw
    go_simp
    try (with_reducible rfl)
  try simp only [Act.put, List.setIfInBounds_toArray, List.set_cons_zero, List.set_cons_succ]
  refine wpAnyT_takeD (i := 6) (d := some 75) (v := ?_) hO rfl rfl (by kernel_rfl) (fun _ _ _ h => h) (Or.inl ⟨by rfl, ?_⟩) (by exact hHeld) ?_
  rotate_left
  · intro w' hSw
    obtain ⟨z1, z2, z3, z4⟩ := hSw
    go_simp
    try (with_reducible rfl)
  try simp only [Act.put, List.setIfInBounds_toArray, List.set_cons_zero, List.set_cons_succ]
  refine wpAnyT_takeD (i := 7) (d := some 76) (v := ?_) hO rfl rfl (by kernel_rfl) (fun _ _ _ h => h) (Or.inl ⟨by rfl, ?_⟩) (by exact hHeld) ?_
  rotate_left
  · intro w' hSw
    obtain ⟨z1, z2, z3, z4⟩ := hSw
    go_simp
    try (with_reducible rfl)
  try simp only [Act.put, List.setIfInBounds_toArray, List.set_cons_zero, List.set_cons_succ]
  refine wpAnyT_takeD (i := 8) (d := some 77) (v := ?_) hO rfl rfl (by kernel_rfl) (fun _ _ _ h => h) (Or.inl ⟨by rfl, ?_⟩) (by exact hHeld) ?_
  rotate_left
  · intro w' hSw
    obtain ⟨z1, z2, z3, z4⟩ := hSw
    go_simp
    try (with_reducible rfl)
  try simp only [Act.put, List.setIfInBounds_toArray, List.set_cons_zero, List.set_cons_succ]
  clear hHeld
  refine wpAnyT_one (i := 4) rfl (by kernel_rfl) (by rfl) (fun K hK => ?_)
  go_simp
  refine (write_calls (c := c) (HTK.out.pan.ext (Ext.refl Nope _).drew (fun _ _ z => z)) HTK.out.ok (HUK.out.1.ext0 (Ext.refl Nope _).drew) HUK.out.2.2.1 HUK.out.2.1 hc hl8).mono ?_
  rintro e w6 ⟨rfl, g5, g6⟩
  have h6 : WriteOf w8.drew base b rv _ _ w6 := ⟨rfl, g5, g6⟩
  have z6 : Ext (Foot2 b rb rv rrv) w8 w6 := (Ext.refl _ _).drew.trans (g6.mono (fun _ z => .inl z)) (fun _ _ z => z)
  have r6 := (HTK.out.ref.ext (Ext.refl Nope _).drew (fun _ _ z => z)).ext g6 (fun k hk z => HTK.out.apart k z hk)
  have u6 := (HUK.out.1.ext0 (Ext.refl Nope _).drew).ext g6 HUK.out.2.2.1
  have H6 := toHid (show _ ∧ _ ∧ _ from ⟨h6, r6, u6⟩)
  clear g5 g6 h6 r6 u6
  try go_simp
  refine hK.out _ _ (SK.out _ z6) (fun hHeld => ?_)
  clear hK K hHeld
  try simp only [Act.put, List.setIfInBounds_toArray, List.set_cons_zero, List.set_cons_succ]
  refine wpAnyT_one (i := 9) rfl (by kernel_rfl) (by rfl) (fun K hK => ?_)
  go_simp
  refine (rwrite_calls (c := c) H6.out.2.1 (rel_ok HTK.out.rel HTK.out.ok) H6.out.2.2 HUK.out.2.2.2 HUK.out.2.1 hc hl8).mono ?_
  rintro e w7 ⟨rfl, g7, g8⟩
  have h7 : RWriteOf w6 base rb rrv _ _ w7 := ⟨rfl, g7, g8⟩
  have z7 : Ext (Foot2 b rb rv rrv) w8 w7 := z6.trans (g8.mono (fun _ z => .inr z)) (fun _ _ z => z)
  obtain ⟨tq1, tq2, _⟩ := Twin.write (HTK.out.ext (Ext.refl Nope _).drew) (by omega) H6.out.1 h7
  obtain ⟨_, _, o3, o4⟩ := write_ok (c := c) (xs := (xs.take n8)) HTK.out.ok HTK.out.many (by omega)
  rw [tq1]
  have H7 := toHid (show _ ∧ _ ∧ _ ∧ _ from ⟨tq2, o3, o4, z7⟩)
  clear g7 g8 h7 z6
  try go_simp
  refine hK.out _ _ (SK.out _ z7) (fun hHeld => ?_)
  clear hK K hHeld z7
  try simp only [Act.put, List.setIfInBounds_toArray, List.set_cons_zero, List.set_cons_succ]
  refine wpAnyT_done (by kernel_rfl) ⟨by kernel_rfl, ?_⟩
  simp only [List.drop_succ_cons, List.drop_zero]
  go_wp2
  go_ret
  exact ⟨rfl, ⟨_, _, H7.out.1, by rw [H7.out.2.1]; exact HPP.out.1, by rw [H7.out.2.2.1]; exact HPP.out.2⟩, (H8.out.1.mono (fun _ z => z.elim)).trans H7.out.2.2.2 (fun _ _ z => z)⟩
end
end Go.Proofs.YtmmcadbkmfjcbaaDoor
