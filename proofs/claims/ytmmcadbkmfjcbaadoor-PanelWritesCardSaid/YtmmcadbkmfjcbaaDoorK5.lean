/-
  PanelWrites: the walk.
-/
import Derived.Test.YtmmcadbkmfjcbaaDoorK3
import Derived.BigQuiet
namespace Go.Proofs.YtmmcadbkmfjcbaaDoor
open Go.RowKit
attribute [local go_sem] alloc_drewN setCell_drewN

/-- A slice of calls, as it is read. -/
def CallsAt (W : World) (a : Option Addr) (len : Nat) : Prop := len = 0 ∨ ∃ b off, a = some ⟨b, off, none⟩ ∧ b < W.heap.size ∧ ∀ k, k < len → ∃ (what q0 q1 q2 q3 fl : Int) (c : R) (v : Value) (xs : List Nat), (0 ≤ what ∧ what ≤ 255) ∧ (0 ≤ q0 ∧ q0 ≤ 255) ∧ (0 ≤ q1 ∧ q1 ≤ 255) ∧ (0 ≤ q2 ∧ q2 ≤ 255) ∧ (0 ≤ q3 ∧ q3 ≤ 255) ∧ (-9223372036854775808 ≤ fl ∧ fl ≤ 9223372036854775807) ∧ c.i64 ∧ Reads W v xs ∧ U64 xs ∧
  ∀ j u, [Value.int .u8 what, .int .u8 q0, .int .u8 q1, .int .u8 q2, .int .u8 q3, .int .i64 c.x, .int .i64 c.y, .int .i64 c.w, .int .i64 c.h, v, .int .i64 fl][j]? = some u → W.cell? ⟨b, off + k * 11 + j, none⟩ = some u
theorem CallsAt.ext0 {W W' : World} {a : Option Addr} {len : Nat} (h : CallsAt W a len) (e : Ext Nope W W') : CallsAt W' a len := by
  rcases h with h | ⟨b, off, h1, h2, h3⟩
  · exact .inl h
  · refine .inr ⟨b, off, h1, Nat.lt_of_lt_of_le h2 e.size, fun k hk => ?_⟩
    obtain ⟨what, q0, q1, q2, q3, fl, c, v, xs, g1, g2, g3, g4, g5, g6, g7, g8, g9, g10⟩ := h3 k hk
    exact ⟨what, q0, q1, q2, q3, fl, c, v, xs, g1, g2, g3, g4, g5, g6, g7, g8.ext0 e, g9, fun j u hj => (World.cell?_of_block (w := W) (a := ⟨b, off + k * 11 + j, none⟩) (e.block b h2 (fun z => z))).trans (g10 j u hj)⟩
theorem do_calls {w : World} {base b rb M : Nat} {rv rrv : Value} {p : Pan} {r : Ref} {c : R} {v : Value} {xs : List Nat} (what q0 q1 q2 q3 fl : Int) (hTw : Twin w base b rb rv rrv p r M) (hM : M + 1 ≤ 1000000) (hr : Reads w v xs) (hu : U64 xs) (hc : c.i64) (w0 : 0 ≤ what ∧ what ≤ 255) (a0 : 0 ≤ q0 ∧ q0 ≤ 255) (a1 : 0 ≤ q1 ∧ q1 ≤ 255) (a2 : 0 ≤ q2 ∧ q2 ≤ 255) (a3 : 0 ≤ q3 ∧ q3 ≤ 255) (f1 : -9223372036854775808 ≤ fl) (f2 : fl ≤ 9223372036854775807) (W H : Nat) (hW1 : 1 ≤ W) (hW2 : W ≤ 64) (hH1 : 1 ≤ H) (hH2 : H ≤ 64) (hpw : p.w = W) (hph : p.rows.length = H) :
    Calls Tryd.prog 14 #[.agg #[.int .u8 what, .int .u8 q0, .int .u8 q1, .int .u8 q2, .int .u8 q3, .int .i64 c.x, .int .i64 c.y, .int .i64 c.w, .int .i64 c.h, v, .int .i64 fl], ptr b, ptr rb, .int .i64 W, .int .i64 H] w (DoOf w base b rb rv rrv M W H) := by
  obtain ⟨av, cap, rfl, _⟩ := id hr
  by_cases h0 : what % 5 = 0
  · exact do_zero what q0 q1 q2 q3 fl hTw hM hr hu hc w0 a0 a1 a2 a3 f1 f2 W H hW1 hW2 hH1 hH2 hpw hph h0
  · by_cases h1 : what % 5 = 1
    · exact do_one what q0 q1 q2 q3 fl hTw hM hr hu hc w0 a0 a1 a2 a3 f1 f2 W H hW1 hW2 hH1 hH2 hpw hph h1
    · by_cases h2 : what % 5 = 2
      · exact do_two what q0 q1 q2 q3 fl hTw hM hr hu hc w0 a0 a1 a2 a3 f1 f2 W H hW1 hW2 hH1 hH2 hpw hph h2
      · exact do_other what q0 q1 q2 q3 fl hTw hM hr hu hc w0 a0 a1 a2 a3 f1 f2 W H hW1 hW2 hH1 hH2 hpw hph ⟨h0, h1, h2⟩

theorem twin_new {w w1 w2 w3 : World} {W H b rb : Nat} {rv rrv : Value} (hw : w.heap.size ≤ w1.heap.size) (h1 : 1 ≤ W) (h2 : W ≤ 64) (h4 : H ≤ 64) (hp : PanAt w2 w1.heap.size b rv ⟨W, List.replicate H 0, false, 0, 0⟩) (_e1 : Ext Nope w1 w2) (hr : RefAt w3 w2.heap.size rb rrv ⟨W, List.replicate H 0, -1, 0⟩) (e2 : Ext Nope w2 w3) : Twin w3 w.heap.size b rb rv rrv ⟨W, List.replicate H 0, false, 0, 0⟩ ⟨W, List.replicate H 0, -1, 0⟩ 0 := by
  have hp3 := hp.ext e2 (fun _ _ z => z)
  have hb := fun k => hp.foot k
  have hb2 := fun k => hr.foot k
  refine ⟨⟨hp3.cells, own_base hp3.rows (fun g hg => by have := (hb g (.inr hg)).1; omega), by have := (hb b (.inl rfl)).1; omega, hp3.apart⟩, ⟨hr.cells, own_base hr.rows (fun g hg => by have := (hb2 g (.inr hg)).1; have := (hb b (.inl rfl)); omega), by have := (hb2 rb (.inl rfl)).1; have := (hb b (.inl rfl)); omega, hr.apart⟩, fun k hk z => by have := (hb k hk).2; have := (hb2 k z).1; omega, ⟨rfl, rfl, rfl, by simp⟩, ⟨h2, by simp; omega, fun x hx => by have := List.eq_of_mem_replicate hx; omega, fun h => by simp at h, by simp, by simp, by simp⟩, Nat.le_refl _, by simp only; omega⟩

set_option maxRecDepth 100000 in
set_option maxHeartbeats 4000000 in
/-- abugidalaw33.PanelWrites -/
theorem writes_calls {w : World} {av : Option Addr} {ln cap : Nat} (q0 q1 : Int) (hT : Tab w) (a0 : 0 ≤ q0 ∧ q0 ≤ 255) (a1 : 0 ≤ q1 ∧ q1 ≤ 255) (hcs : CallsAt w av ln) (hln : ln ≤ maxLen) :
    Calls Tryd.prog 3 #[.agg #[.int .u8 q0, .int .u8 q1], .slice av ln cap] w fun e w' => e = .returned (.bool true) ∧ Ext Nope w w' := by
  unfold maxLen at hln
  have HT := toHid (show _ ∧ _ from ⟨hT, hcs⟩)
  obtain ⟨W, hW⟩ : ∃ W : Nat, 1 + q0 % 64 = (W : Int) := ⟨(1 + q0 % 64).toNat, by omega⟩
  obtain ⟨H, hH⟩ : ∃ H : Nat, 1 + q1 % 64 = (H : Int) := ⟨(1 + q1 % 64).toNat, by omega⟩
  have hW1 : 1 ≤ W ∧ W ≤ 64 := by omega
  have hH1 : 1 ≤ H ∧ H ≤ 64 := by omega
  have t0 : q0.tmod 64 = (W : Int) - 1 := by rw [Int.tmod_eq_emod_of_nonneg a0.1]; omega
  have t1 : q1.tmod 64 = (H : Int) - 1 := by rw [Int.tmod_eq_emod_of_nonneg a1.1]; omega
  have t2 : IntKind.i64.wrap (1 + ((W : Int) - 1)) = (W : Int) := by rw [show 1 + ((W : Int) - 1) = (W : Int) by omega]; exact IntWalk.i64_in _ (by omega)
  have t3 : IntKind.i64.wrap (1 + ((H : Int) - 1)) = (H : Int) := by rw [show 1 + ((H : Int) - 1) = (H : Int) by omega]; exact IntWalk.i64_in _ (by omega)
  have p0 : IntKind.i64.wrap q0 = q0 := IntWalk.i64_in _ (by omega)
  have p1 : IntKind.i64.wrap q1 = q1 := IntWalk.i64_in _ (by omega)
  have HTT := toHid (show _ ∧ _ ∧ _ ∧ _ ∧ _ ∧ _ from ⟨t0, t1, t2, t3, p0, p1⟩)
  clear hT hcs hW hH t0 t1 t2 t3 p0 p1
  go_enter Tryd.func3, Tryd.ntmps3
  go_wp2_with fail
  have e0 : Ext Nope w (w.alloc (.cells #[.int .u8 q0, .int .u8 q1] 22)) := (Ext.refl _ _).alloc _
  refine (sanity_calls _ (HT.out.1.ext0 e0)).mono ?_
  rintro e w1 ⟨rfl, x1⟩
  have k1 := (x1.block w.heap.size (by simp) (fun z => z)).trans (heap_alloc_new w (.cells #[.int .u8 q0, .int .u8 q1] 22))
  have c0 := cell_of_blk k1 0
  have c1 := cell_of_blk k1 1
  have HE1 := toHid (ext0 e0 x1)
  clear e0 x1 k1
  go_upto_region 2 with fail
  obtain ⟨t0, t1, t2, t3, p0, p1⟩ := HTT.out
  go_quiet (fail)
  clear t0 t1 t2 t3 p0 p1 c0 c1
  have HE2 := toHid ((HE1.out).drewN nq)
  generalize w1.drewN nq = w1 at *
  go_wp2_with fail
  refine (new_calls W H _ hW1.1 hW1.2 hH1.1 hH1.2).mono ?_
  rintro e w2 ⟨b, rv, rfl, hp, x2⟩
  have HP2 := toHid (show _ ∧ _ from ⟨hp, x2⟩)
  clear hp x2
  go_wp2_with fail
  refine (rnew_calls W H _ hW1.1 hW1.2 hH1.1 hH1.2).mono ?_
  rintro e w3 ⟨rb, rrv, rfl, hr, x3⟩
  have T0 := twin_new (w := w) HE2.out.size hW1.1 hW1.2 hH1.2 HP2.out.1 HP2.out.2 hr x3
  have E3 : Ext Nope w w3 := ext0 (ext0 HE2.out HP2.out.2) x3
  have HT3 := toHid (show _ ∧ _ from ⟨T0, E3⟩)
  clear T0 E3 hr x3 HP2 HE2 HE1
  go_wp2_with fail
  go_loopw [10] (fun i wr => ∃ k : Nat, i = .int .i64 k ∧ k ≤ 20 ∧ (∃ p r, Twin wr w.heap.size b rb rv rrv p r k ∧ p.w = W ∧ p.rows.length = H) ∧ Ext Nope w wr) (fun i _ => 20 - (intOf i).toNat)
  case atStart => exact ⟨0, rfl, by omega, ⟨_, _, HT3.out.1, rfl, by simp⟩, HT3.out.2⟩
  case round =>
    obtain ⟨k, rfl, hk, ⟨p, r, hTw, hpw, hph⟩, hE⟩ := hrel
    rename World => wo
    have HK := toHid (show _ ∧ _ ∧ _ ∧ _ from ⟨hTw, hpw, hph, hE⟩)
    clear hTw hpw hph hE HT3
    by_cases hkn : k < ln ∧ k < 20
    · obtain ⟨hk1, hk2⟩ := hkn
      rcases HT.out.2.ext0 HK.out.2.2.2 with h0 | ⟨cb, co, rfl, hcb, hc⟩
      · omega
      · obtain ⟨what, q0', q1', q2', q3', fl, c, v, xs, g1, g2, g3, g4, g5, g6, g7, g8, g9, g10⟩ := hc k hk1
        have d0 : wo.cell? ⟨cb, co + k * 11, none⟩ = some (.int .u8 what) := g10 0 _ rfl
        have d1 := g10 1 _ rfl
        have d2 := g10 2 _ rfl
        have d3 := g10 3 _ rfl
        have d4 := g10 4 _ rfl
        have d5 := g10 5 _ rfl
        have d6 := g10 6 _ rfl
        have d7 := g10 7 _ rfl
        have d8 := g10 8 _ rfl
        have d9 := g10 9 _ rfl
        have d10 := g10 10 _ rfl
        have HG := toHid (show _ ∧ _ from ⟨g7, g8⟩)
        have s1 : (0 : Int) ≤ (k : Int) := by omega
        have s2 : (k : Int) < (ln : Int) := by omega
        have s3 : (k : Int) < 20 := by omega
        clear hc g7 g8 g10
        go_wp2_with fail
        refine (do_calls what q0' q1' q2' q3' fl HK.out.1 (by omega) HG.out.2 g9 HG.out.1 g1 g2 g3 g4 g5 g6.1 g6.2 W H hW1.1 hW1.2 hH1.1 hH1.2 HK.out.2.1 HK.out.2.2.1).mono ?_
        rintro e w4 ⟨rfl, ⟨p', r', T4, hpw, hph⟩, x4⟩
        have E4 : Ext Nope w w4 := HK.out.2.2.2.trans x4 (fun i hi z => absurd (HK.out.1.foot i z).1 (by omega))
        have hr64 : p'.rows.length ≤ 64 := by omega
        have H4 := toHid (show _ ∧ _ ∧ _ ∧ _ from ⟨T4, hpw, hph, E4⟩)
        clear d0 d1 d2 d3 d4 d5 d6 d7 d8 d9 d10 T4 hpw hph x4 E4
        go_wp2_with fail
        refine (pixels_calls H4.out.1.pan hr64).mono ?_
        rintro e w5 ⟨u5, rfl, r5, x5⟩
        have T5 := H4.out.1.ext x5
        have H5 := toHid (show _ ∧ _ ∧ _ from ⟨T5, RowsAt.reads r5, ext0 H4.out.2.2.2 x5⟩)
        clear T5 r5 x5
        go_wp2_with fail
        refine (rpixels_calls H5.out.1.ref (by rw [H5.out.1.rel.w]; exact H5.out.1.w0) (by rw [H5.out.1.rel.rows]; exact hr64)).mono ?_
        rintro e w6 ⟨u6, rfl, r6, x6⟩
        have H6 := toHid (show _ ∧ _ ∧ _ ∧ _ from ⟨H5.out.1.ext x6, H5.out.2.1.ext0 x6, RowsAt.reads r6, ext0 H5.out.2.2 x6⟩)
        clear r6 x6
        go_wp2_with fail
        refine (same_calls H6.out.2.1 H6.out.2.2.1).mono ?_
        rintro e w7 ⟨rfl, x7⟩
        have H7 := toHid (show _ ∧ _ from ⟨H6.out.1.ext x7, ext0 H6.out.2.2.2 x7⟩)
        rw [decide_eq_true H7.out.1.rel.rows.symm]
        clear x7
        go_wp2_with fail
        refine (updates_calls H7.out.1.pan).mono ?_
        rintro e w8 ⟨rfl, rfl⟩
        go_wp2_with fail
        refine (rupdates_calls H7.out.1.ref).mono ?_
        rintro e w9 ⟨rfl, rfl⟩
        rw [H7.out.1.rel.many]
        go_wp2
        go_roundw
        case rel => exact ⟨k + 1, by go_num, by omega, ⟨_, _, H7.out.1, H4.out.2.1, H4.out.2.2.1⟩, H7.out.2⟩
        case measure => simp [intOf]; omega
    · by_cases hl : k < ln
      · have s2 : (k : Int) < (ln : Int) := by omega
        have s3 : decide ((k : Int) < 20) = false := by simp; omega
        have s4 : decide (k < 20) = false := by simp; omega
        go_wp2
        go_ret
        exact ⟨rfl, HK.out.2.2.2⟩
      · have s2 : decide ((k : Int) < (ln : Int)) = false := by simp; omega
        have s3 : decide (k < ln) = false := by simp; omega
        go_wp2
        go_ret
        exact ⟨rfl, HK.out.2.2.2⟩
end Go.Proofs.YtmmcadbkmfjcbaaDoor
