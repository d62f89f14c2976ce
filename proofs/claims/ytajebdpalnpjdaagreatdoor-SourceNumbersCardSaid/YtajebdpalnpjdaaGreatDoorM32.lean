/-
  The line of a rule.
-/
import Derived.Test.YtajebdpalnpjdaaGreatDoorM31
namespace Go.Proofs.YtajebdpalnpjdaaGreatDoor
open Go.RowKit
attribute [local go_sem] alloc_drewN setCell_drewN

abbrev k_bar : ByteArray := ⟨#[124]⟩
abbrev k_gt : ByteArray := ⟨#[62]⟩
abbrev w_call : ByteArray := ⟨#[99, 97, 108, 108]⟩
theorem joinC_bound {c : UInt8} {m : Nat} : ∀ (l : List (List UInt8)), (∀ x ∈ l, x.length ≤ m) → (joinC c l).length ≤ (m + 1) * l.length
  | [], _ => Nat.zero_le _
  | [x], h => by
    have := h x (by simp)
    show x.length ≤ (m + 1) * 1
    omega
  | x :: y :: r, h => by
    have h1 := h x (by simp)
    have h2 := joinC_bound (c := c) (y :: r) (fun z hz => h z (List.mem_cons_of_mem _ hz))
    show (x ++ c :: joinC c (y :: r)).length ≤ (m + 1) * ((y :: r).length + 1)
    rw [List.length_append, List.length_cons, Nat.mul_add]
    omega
/-- A set that is met. -/
def SetM (s : List Int) : Prop := 0 < s.length ∧ s.length ≤ 100 ∧ ∀ n ∈ s, i64 n
theorem SetM.small {s : List Int} (h : SetM s) : (joinB 44 (s.map num)).size ≤ 2200 := by
  have h1 := joinC_bound (c := 44) (m := 21) ((s.map num).map fun p => p.data.toList) (fun x hx => by
    obtain ⟨p, hp, rfl⟩ := List.mem_map.1 hx
    obtain ⟨n, hn, rfl⟩ := List.mem_map.1 hp
    have := num_small (h.2.2 n hn)
    exact this)
  rw [List.length_map, List.length_map] at h1
  have h2 := h.2.1
  show (joinC 44 ((s.map num).map fun p => p.data.toList)).toArray.size ≤ _
  rw [List.size_toArray]
  omega
theorem ent_set : Enters 103 := enters_of Tryz.func103 (by kernel_rfl) rfl
theorem writes_set {A : Nat → Prop} {w : World} (G : Glob w) {c : List (List Int)} (hc : ∀ s ∈ c, SetM s) : Writes 103 #[] w (El1 A (c.map intsD)) (c.map setS) := by
  intro k W u s hs hE hu
  obtain ⟨x, hx, hr⟩ := hu
  rw [List.getElem?_map] at hx hs
  obtain ⟨p, hp, rfl⟩ := Option.map_eq_some_iff.1 hx
  rw [hp] at hs
  have hs : setS p = s := by simpa using hs
  subst hs
  have hm := hc p (List.mem_of_getElem? hp)
  exact set_write (G.ext0 hE) hr hm.2.2 hm.1 (by have := hm.2.1; omega) (by have := hm.small; omega)
theorem ent_callw : Enters 101 := enters_of Tryz.func101 (by kernel_rfl) rfl
theorem writes_callw {A : Nat → Prop} {w : World} (G : Glob w) {c : List (Int × Int)} : Writes 101 #[] w (ElS A (c.map pairD)) (c.map callS) := by
  intro k W u s hs hE hu
  obtain ⟨x, cs, rfl, hx, hr⟩ := hu
  rw [List.getElem?_map] at hx hs
  obtain ⟨p, hp, rfl⟩ := Option.map_eq_some_iff.1 hx
  rw [hp] at hs
  have hs : callS p = s := by simpa using hs
  subst hs
  obtain ⟨_, rfl, h1, hr⟩ := hr.ri
  obtain ⟨_, rfl, h2, hr⟩ := hr.ri
  obtain rfl := hr.r_nil
  exact call_write (G.ext0 hE) h1 h2
/-- What a rule's line ends with. -/
def endsS (r : RuleA) : List ByteArray := if r.calls = [] then k_gt :: r.out.map num else w_call :: r.calls.map callS
def ruleSS (r : RuleA) : List (List ByteArray) := [[k_rule], r.back.map setS, [k_bar], r.in_.map setS, [k_bar], r.ahead.map setS, endsS r]
theorem rule_cells {w : World} {b : Nat} {T : TypeId} {x0 x1 x2 x3 x4 : Value} (h : w.heap[b]? = some (.cells #[x0, x1, x2, x3, x4] T (0, 0))) : w.cell? ⟨b, 0, none⟩ = some x0 ∧ w.cell? ⟨b, 1, none⟩ = some x1 ∧ w.cell? ⟨b, 2, none⟩ = some x2 ∧ w.cell? ⟨b, 3, none⟩ = some x3 ∧ w.cell? ⟨b, 4, none⟩ = some x4 := by
  refine ⟨?_, ?_, ?_, ?_, ?_⟩ <;> (rw [show ∀ j, (⟨b, j, none⟩ : Addr) = at_ b j from fun _ => rfl, cell_of_blk h]; rfl)
/-- An end of a line, appended to. -/
theorem ends_own {w : World} {base : Nat} {v : Value} {x : ByteArray} {ss : List ByteArray} (h : w.ownsRow base 9 1 v (1 + ss.length) ([.string x] ++ ss.map .string)) : OwnS w base v (x :: ss) := by
  unfold OwnS
  rw [List.length_cons, Nat.add_comm]
  exact h
theorem calls_i64 {A : Nat → Prop} {w : World} {v : Value} {c : List (Int × Int)} (h : Rd A w [v] (.l 2 (c.map pairD))) : ∀ p ∈ c, i64 p.1 ∧ i64 p.2 := by
  intro p hp
  obtain ⟨k, hk⟩ := List.mem_iff_getElem?.1 hp
  obtain ⟨a, cap, hv, _, _, hl⟩ := h.l_inv
  obtain ⟨b, off, _, _, _, hat⟩ := hl (by rw [List.length_map]; have := (List.getElem?_eq_some_iff.1 hk).1; omega)
  obtain ⟨us, _, _, hr⟩ := hat k (pairD p) (by rw [List.getElem?_map, hk]; rfl)
  obtain ⟨_, rfl, h1, hr⟩ := hr.ri
  obtain ⟨_, rfl, h2, hr⟩ := hr.ri
  exact ⟨h1, h2⟩
theorem callS_small {c : List (Int × Int)} (h : ∀ p ∈ c, i64 p.1 ∧ i64 p.2) : ∀ s ∈ c.map callS, s.size ≤ 1000000 := by
  intro s hs
  obtain ⟨p, hp, rfl⟩ := List.mem_map.1 hs
  exact Nat.le_trans (join2_size (h p hp).1 (h p hp).2) (by omega)
/-- A rule that is met. -/
structure RuleM (r : RuleA) : Prop where
  back : ∀ s ∈ r.back, SetM s
  in_ : ∀ s ∈ r.in_, SetM s
  ahead : ∀ s ∈ r.ahead, SetM s
  out : ∀ n ∈ r.out, i64 n
  few : r.back.length ≤ 100 ∧ r.in_.length ≤ 100 ∧ r.ahead.length ≤ 100 ∧ r.out.length ≤ 100 ∧ r.calls.length ≤ 100
set_option maxRecDepth 100000 in
set_option maxHeartbeats 16000000 in
/-- writer.rule -/
theorem rule_write {A : Nat → Prop} {w : World} (G : Glob w) {B b : Nat} {l : List UInt8} (h : WB w B b l) (hB : B ≤ w.heap.size) {r : RuleA} (hm : RuleM r) {cs : List Value} (hr : Rd A w cs (ruleD r)) (hA : ∀ k, A k → k < B) (h64 : 11 ≤ B) (hlen : (l ++ lineC (ruleSS r).flatten).length ≤ 100000) :
    Calls Tryz.prog 40 #[ptr b, .agg cs.toArray] w fun e w' => e = .returned (.tuple #[]) ∧ WB w' B b (l ++ lineC (ruleSS r).flatten) ∧ Ext (Wr w B b) w w' := by
  obtain ⟨v0, _, rfl, h0, hr⟩ := Rd.rl hr
  obtain ⟨v1, _, rfl, h1, hr⟩ := Rd.rl hr
  obtain ⟨v2, _, rfl, h2, hr⟩ := Rd.rl hr
  obtain ⟨v3, _, rfl, h3, hr⟩ := Rd.rl hr
  obtain ⟨v4, _, rfl, h4, hr⟩ := Rd.rl hr
  obtain rfl := hr.r_nil
  obtain ⟨a0, c0, hv0, _⟩ := h0.len
  obtain ⟨a1, c1, hv1, _⟩ := h1.len
  obtain ⟨a2, c2, hv2, _⟩ := h2.len
  obtain ⟨a3, c3, hv3, _⟩ := h3.len
  obtain ⟨a4, c4, hv4, _⟩ := h4.len
  rw [List.length_map] at hv0 hv1 hv2 hv3 hv4
  have HM := toHid hm
  have HR := toHid (show _ ∧ _ ∧ _ ∧ _ ∧ _ from ⟨h0, h1, h2, h3, h4⟩)
  obtain ⟨n0, HN0⟩ : ∃ n, Hid (r.back.length = n) := ⟨_, rfl⟩
  obtain ⟨n1, HN1⟩ : ∃ n, Hid (r.in_.length = n) := ⟨_, rfl⟩
  obtain ⟨n2, HN2⟩ : ∃ n, Hid (r.ahead.length = n) := ⟨_, rfl⟩
  obtain ⟨n3, HN3⟩ : ∃ n, Hid (r.out.length = n) := ⟨_, rfl⟩
  obtain ⟨n4, HN4⟩ : ∃ n, Hid (r.calls.length = n) := ⟨_, rfl⟩
  rw [HN0.out] at hv0
  rw [HN1.out] at hv1
  rw [HN2.out] at hv2
  rw [HN3.out] at hv3
  rw [HN4.out] at hv4
  subst hv0 hv1 hv2 hv3 hv4
  have hbl := h.le
  have HL := toHid hlen
  obtain ⟨i0, hi, hz0, hz1, hz2⟩ := info_parts infoStr
  have HI := toHid (show _ ∧ _ ∧ _ ∧ _ from ⟨hi, hz0, hz1, hz2⟩)
  have e1 : Ext Nope w (w.alloc (.cells #[.slice a0 n0 c0, .slice a1 n1 c1, .slice a2 n2 c2, .slice a3 n3 c3, .slice a4 n4 c4] 81)) := (Ext.refl _ _).alloc _
  have hz := heap_alloc_new w (.cells #[.slice a0 n0 c0, .slice a1 n1 c1, .slice a2 n2 c2, .slice a3 n3 c3, .slice a4 n4 c4] 81)
  have H1 := toHid (show _ ∧ _ ∧ _ ∧ _ ∧ _ ∧ _ from ⟨e1, hz, h.ext0 e1, G.ext0 e1, hB, hA⟩)
  clear e1 hz h G hB hlen h0 h1 h2 h3 h4 hr hA hm hi hz0 hz1 hz2
  go_enter Tryz.func40, Tryz.ntmps40
  go_upto_region 1 with fail
  obtain ⟨X, HX⟩ : ∃ X, Hid (w.heap.size = X) := ⟨_, rfl⟩
  rw [HX.out] at H1 ⊢
  generalize w.alloc (.cells #[.slice a0 n0 c0, .slice a1 n1 c1, .slice a2 n2 c2, .slice a3 n3 c3, .slice a4 n4 c4] 81) = w1 at *
  have SK : Hid (∀ W, Ext Nope w1 W → W.cell? ⟨X, 0, none⟩ = some (.slice a0 n0 c0) ∧ W.cell? ⟨X, 1, none⟩ = some (.slice a1 n1 c1) ∧ W.cell? ⟨X, 2, none⟩ = some (.slice a2 n2 c2) ∧ W.cell? ⟨X, 3, none⟩ = some (.slice a3 n3 c3) ∧ W.cell? ⟨X, 4, none⟩ = some (.slice a4 n4 c4)) := fun W e =>
    rule_cells ((e.block _ (lt_of_heap H1.out.2.1) (fun z => z)).trans H1.out.2.1)
  have hxw : X < w1.heap.size := lt_of_heap H1.out.2.1
  go_cut [4] (fun t wx => (∃ a c, t = .slice a (1 + n3) c) ∧ OwnS wx w1.heap.size t (k_gt :: r.out.map num) ∧ Ext Nope w1 wx)
  case first =>
    refine wp_region_inv 5 [5, 6, 7, 8, 9] (fun W => Ext Nope w1 W) (fun i v W => Is ([.o w1.heap.size 1 [k_gt], .o w1.heap.size 1 [k_gt], .v (.pointer (some ⟨X, 3, none⟩)), .v (.slice a3 n3 c3), .d n3 (strsD (r.out.map num))].getD i (.v undef)) v W) (by kernel_rfl) (by kernel_rfl) (by kernel_rfl) (by kernel_rfl) (Ext.refl _ _).drew ?step ?final
    case step =>
      intro i oi hi hoi y W hE hdep K hK
      obtain ⟨x0, x1, x2, x3, x4⟩ := SK.out W hE
      match i, hi, hoi with
      | 0, _, hoi =>
        obtain rfl := (Option.some.inj hoi).symm
        replace hK : ∀ v W', _ → _ → _ → K ((Fill _ _ y).put (some 5) v) W' := hK.out
        simp only [Fill, fillTmps, Act.put, List.setIfInBounds_toArray, List.set_cons_zero, List.set_cons_succ] at hK ⊢
        clear hdep
        replace hK := toHid hK
        go_simp
        refine hK.out _ _ (hE.alloc _) (fun _ _ z => Is.ext z ((Ext.refl _ _).alloc _)) ⟨_, _, rfl, OwnS.lit W [k_gt] w1.heap.size hE.size (by decide)⟩
      | 1, _, hoi =>
        obtain rfl := (Option.some.inj hoi).symm
        have hd0 : Is (.o w1.heap.size 1 [k_gt]) (y 0) W := hdep ⟨0, .data⟩ (by simp) rfl
        obtain ⟨ia0, ic0, hv0, hd0⟩ := hd0
        replace hK : ∀ v W', _ → _ → _ → K ((Fill _ _ y).put (some 6) v) W' := hK.out
        simp only [Fill, fillTmps, Act.put, List.setIfInBounds_toArray, List.set_cons_zero, List.set_cons_succ, hv0] at hK ⊢
        rw [hv0] at hd0
        clear hdep
        replace hK := toHid hK
        go_simp
        refine (parts_write _ _ _ _).mono ?_
        rintro e w2 ⟨rfl, rfl⟩
        try go_simp
        exact hK.out _ _ hE (fun _ _ z => z) ⟨_, _, rfl, hd0⟩
      | 2, _, hoi =>
        obtain rfl := (Option.some.inj hoi).symm
        replace hK : ∀ v W', _ → _ → _ → K ((Fill _ _ y).put (some 7) v) W' := hK.out
        simp only [Fill, fillTmps, Act.put, List.setIfInBounds_toArray, List.set_cons_zero, List.set_cons_succ] at hK ⊢
        clear hdep
        replace hK := toHid hK
        go_simp
        exact hK.out _ _ hE (fun _ _ z => z) rfl
      | 3, _, hoi =>
        obtain rfl := (Option.some.inj hoi).symm
        have hd2 : Is (.v (.pointer (some ⟨X, 3, none⟩))) (y 2) W := hdep ⟨2, .data⟩ (by simp) rfl
        have hd2 : y 2 = (.pointer (some ⟨X, 3, none⟩)) := hd2
        replace hK : ∀ v W', _ → _ → _ → K ((Fill _ _ y).put (some 8) v) W' := hK.out
        simp only [Fill, fillTmps, Act.put, List.setIfInBounds_toArray, List.set_cons_zero, List.set_cons_succ, hd2] at hK ⊢
        clear hdep
        replace hK := toHid hK
        go_simp
        exact hK.out _ _ hE (fun _ _ z => z) rfl
      | 4, _, hoi =>
        obtain rfl := (Option.some.inj hoi).symm
        have hd3 : Is (.v (.slice a3 n3 c3)) (y 3) W := hdep ⟨3, .data⟩ (by simp) rfl
        have hd3 : y 3 = (.slice a3 n3 c3) := hd3
        replace hK : ∀ v W', _ → _ → _ → K ((Fill _ _ y).put (some 9) v) W' := hK.out
        simp only [Fill, fillTmps, Act.put, List.setIfInBounds_toArray, List.set_cons_zero, List.set_cons_succ, hd3] at hK ⊢
        clear hdep
        replace hK := toHid hK
        go_simp
        refine (numbers_write (H1.out.2.2.2.1.ext0 hE) ((HR.out.2.2.2.1.ext0 H1.out.1).ext0 hE) HM.out.out (by have := HM.out.few; omega)).mono ?_
        rintro e w2 ⟨v2, rfl, o2, e2⟩
        try go_simp
        exact hK.out _ _ (ext0 hE e2) (fun _ _ z => Is.ext z e2) (Is.strs o2 (fun s hs => by obtain ⟨n, hn, rfl⟩ := List.mem_map.1 hs; exact num_1m (HM.out.out n hn)) n3 (by rw [List.length_map]; exact HN3.out))
      | i + 5, hi, _ => exact absurd hi (by omega)
    case final =>
      intro y W hE hR
      have hd1 : Is (.o w1.heap.size 1 [k_gt]) (y 1) W := hR 1 (by omega)
      have hd4 : Is (.d n3 (strsD (r.out.map num))) (y 4) W := hR 4 (by omega)
      obtain ⟨ia1, ic1, hv1, hd1⟩ := hd1
      obtain ⟨ia4, ic4, hv4, hd4⟩ := hd4
      clear hR
      simp only [Fill, fillTmps, Act.put, List.setIfInBounds_toArray, List.set_cons_zero, List.set_cons_succ, hv1, hv4]
      rw [hv1] at hd1
      rw [hv4] at hd4
      simp only [List.drop_succ_cons, List.drop_zero]
      obtain ⟨hi, hz0, hz1, hz2⟩ := HI.out
      have hown : W.ownsRow w1.heap.size 9 1 (.slice ia1 1 ic1) 1 ([k_gt].map .string) := hd1
      have hmE := toHid hE
      have hdd := toHid hd4
      have hd1' := toHid hd1
      clear hd1 hd4
      have hss : (r.out.map num).length = n3 := by rw [List.length_map]; exact HN3.out
      rcases ia4 with _ | ad
      · have hl0 : n3 = 0 := by
          obtain ⟨_, _, hnone, _, _, hll2⟩ := hdd.out.l_inv
          simp only [List.cons.injEq, Value.slice.injEq, and_true] at hnone
          obtain ⟨rfl, hq, rfl⟩ := hnone
          rw [List.length_map] at hq hll2
          rcases Nat.eq_zero_or_pos (r.out.map num).length with h | h
          · omega
          · obtain ⟨_, _, hh, _⟩ := hll2 h
            cases hh
        subst hl0
        have hnil : r.out.map num = [] := List.length_eq_zero_iff.1 hss
        have hrun := fun ty => append_nothing (P := Tryz.prog) w1.heap.size 59 ty 9 i0 1 ic4 Tryz.underlying59 hi (.slice ia1 1 ic1) 1 _ hown
        go_wp2_with (first | (at_builtin; refine Lib.wpList_append_run _ rfl (.tmp 6) (.tmp 9) 59 59 rfl _ _ rfl rfl _ _ (hrun _) ?_))
        have HO : Hid (OwnS W w1.heap.size (.slice ia1 1 ic1) (k_gt :: r.out.map num)) := by rw [hnil]; exact hd1'.out
        have HE := hmE
        go_meet
        obtain ⟨ae, ce, hve, _⟩ := own_gen (show World.ownsRow _ _ _ _ _ (k_gt :: r.out.map num).length _ from HO.out)
        rw [List.length_cons, hss, Nat.add_comm] at hve
        exact ⟨⟨ae, ce, hve⟩, HO.out, HE.out⟩
      · have hone : ∀ u ∈ (r.out.map num).map Value.string, u.oneCell' = true := fun u hu => by
          obtain ⟨s, _, rfl⟩ := List.mem_map.1 hu
          rfl
        have hread := read_at hdd.out
        have hfew : n3 ≤ 100 := by have := HM.out.few; have := HN3.out; have := HN4.out; omega
        go_wp2_with (first | (at_builtin; refine wpList_append_own _ rfl (.tmp 6) (.tmp 9) 59 rfl w1.heap.size 9 i0 _ 1 16 Tryz.underlying59 hi hz0 hz1 hz2 rfl (by decide) _ 1 _ rfl hown ad n3 ic4 ((r.out.map num).map .string) rfl (by rw [List.length_map, hss]; omega) hread hone (by unfold maxLen; omega) (by omega) hmE.out.size ?_))
        intro v' w' hown' hgrow _
        have HO : Hid (OwnS w' w1.heap.size v' (k_gt :: r.out.map num)) := ends_own (by rw [hss]; simpa [List.map_map] using hown')
        have HE : Hid (Ext Nope w1 w') := Ext.grown hmE.out hgrow (fun g hg hlt => absurd hlt (by have := (World.ownsRow.lt hown g hg).1; omega))
        clear hown' hgrow hown hone hread hi hz0 hz1 hz2
        go_wp2_with fail
        go_meet
        obtain ⟨ae, ce, hve, _⟩ := own_gen (show World.ownsRow _ _ _ _ _ (k_gt :: r.out.map num).length _ from HO.out)
        rw [List.length_cons, hss, Nat.add_comm] at hve
        exact ⟨⟨ae, ce, hve⟩, HO.out, HE.out⟩
  case rest =>
    obtain ⟨⟨ae, ce, rfl⟩, ho, he⟩ := hcut
    rename World => wc
    have HC := toHid (show _ ∧ _ from ⟨ho, he⟩)
    clear ho he
    obtain ⟨ne, HNE⟩ : ∃ n, Hid ((endsS r).length = n) := ⟨_, rfl⟩
    have HR2 : Hid (∀ p ∈ r.calls, i64 p.1 ∧ i64 p.2) := calls_i64 HR.out.2.2.2.2
    obtain ⟨x0, x1, x2, x3, x4⟩ := SK.out _ HC.out.2
    go_upto_if 14 with fail
    clear x0 x1 x2 x3 x4
    go_cut [4] (fun t wx => (∃ a c, t = .slice a ne c) ∧ OwnS wx w1.heap.size t (endsS r) ∧ Ext Nope w1 wx)
    case first =>
      by_cases hn4 : n4 = 0
      · subst hn4
        have hce : r.calls = [] := List.length_eq_zero_iff.1 HN4.out
        go_wp2_with fail
        go_meet
        have hne : endsS r = k_gt :: r.out.map num := by unfold endsS; rw [if_pos hce]
        refine ⟨⟨ae, ce, ?_⟩, by rw [hne]; exact HC.out.1, HC.out.2⟩
        rw [← HNE.out, hne, List.length_cons, List.length_map, HN3.out, Nat.add_comm]
      · have hcne : r.calls ≠ [] := fun h => hn4 (by rw [← HN4.out, h]; rfl)
        have s1 : (0 : Int) < (n4 : Int) := by omega
        go_upto_region 3 with fail
        rw [show decide (0 < n4) = true from decide_eq_true (by omega)]
        clear s1
        refine wp_region_inv 5 [15, 16, 17, 18, 19] (fun W => Ext Nope wc W) (fun i v W => Is ([.o w1.heap.size 1 [w_call], .o w1.heap.size 1 [w_call], .v (.pointer (some ⟨X, 4, none⟩)), .v (.slice a4 n4 c4), .d n4 (strsD (r.calls.map callS))].getD i (.v undef)) v W) (by kernel_rfl) (by kernel_rfl) (by kernel_rfl) (by kernel_rfl) (Ext.refl _ _).drew ?step ?final
        case step =>
          intro i oi hi hoi y W hE hdep K hK
          obtain ⟨x0, x1, x2, x3, x4⟩ := SK.out W (ext0 HC.out.2 hE)
          match i, hi, hoi with
          | 0, _, hoi =>
            obtain rfl := (Option.some.inj hoi).symm
            replace hK : ∀ v W', _ → _ → _ → K ((Fill _ _ y).put (some 15) v) W' := hK.out
            simp only [Fill, fillTmps, Act.put, List.setIfInBounds_toArray, List.set_cons_zero, List.set_cons_succ] at hK ⊢
            clear hdep
            replace hK := toHid hK
            go_simp
            refine hK.out _ _ (hE.alloc _) (fun _ _ z => Is.ext z ((Ext.refl _ _).alloc _)) ⟨_, _, rfl, OwnS.lit W [w_call] w1.heap.size (Nat.le_trans HC.out.2.size hE.size) (by decide)⟩
          | 1, _, hoi =>
            obtain rfl := (Option.some.inj hoi).symm
            have hd0 : Is (.o w1.heap.size 1 [w_call]) (y 0) W := hdep ⟨0, .data⟩ (by simp) rfl
            obtain ⟨ia0, ic0, hv0, hd0⟩ := hd0
            replace hK : ∀ v W', _ → _ → _ → K ((Fill _ _ y).put (some 16) v) W' := hK.out
            simp only [Fill, fillTmps, Act.put, List.setIfInBounds_toArray, List.set_cons_zero, List.set_cons_succ, hv0] at hK ⊢
            rw [hv0] at hd0
            clear hdep
            replace hK := toHid hK
            go_simp
            refine (parts_write _ _ _ _).mono ?_
            rintro e w2 ⟨rfl, rfl⟩
            try go_simp
            exact hK.out _ _ hE (fun _ _ z => z) ⟨_, _, rfl, hd0⟩
          | 2, _, hoi =>
            obtain rfl := (Option.some.inj hoi).symm
            replace hK : ∀ v W', _ → _ → _ → K ((Fill _ _ y).put (some 17) v) W' := hK.out
            simp only [Fill, fillTmps, Act.put, List.setIfInBounds_toArray, List.set_cons_zero, List.set_cons_succ] at hK ⊢
            clear hdep
            replace hK := toHid hK
            go_simp
            exact hK.out _ _ hE (fun _ _ z => z) rfl
          | 3, _, hoi =>
            obtain rfl := (Option.some.inj hoi).symm
            have hd2 : Is (.v (.pointer (some ⟨X, 4, none⟩))) (y 2) W := hdep ⟨2, .data⟩ (by simp) rfl
            have hd2 : y 2 = (.pointer (some ⟨X, 4, none⟩)) := hd2
            replace hK : ∀ v W', _ → _ → _ → K ((Fill _ _ y).put (some 18) v) W' := hK.out
            simp only [Fill, fillTmps, Act.put, List.setIfInBounds_toArray, List.set_cons_zero, List.set_cons_succ, hd2] at hK ⊢
            clear hdep
            replace hK := toHid hK
            go_simp
            exact hK.out _ _ hE (fun _ _ z => z) rfl
          | 4, _, hoi =>
            obtain rfl := (Option.some.inj hoi).symm
            have hd3 : Is (.v (.slice a4 n4 c4)) (y 3) W := hdep ⟨3, .data⟩ (by simp) rfl
            have hd3 : y 3 = (.slice a4 n4 c4) := hd3
            replace hK : ∀ v W', _ → _ → _ → K ((Fill _ _ y).put (some 19) v) W' := hK.out
            simp only [Fill, fillTmps, Act.put, List.setIfInBounds_toArray, List.set_cons_zero, List.set_cons_succ, hd3] at hK ⊢
            clear hdep
            replace hK := toHid hK
            go_simp
            refine (writes_calls ent_callw (((HR.out.2.2.2.2.ext0 H1.out.1).ext0 HC.out.2).ext0 hE) (ss := r.calls.map callS) (by simp) (by have := HM.out.few; simp; omega) (caps := #[]) (writes_callw ((H1.out.2.2.2.1.ext0 HC.out.2).ext0 hE))).mono ?_
            rintro e w2 ⟨v2, rfl, o2, e2⟩
            try go_simp
            exact hK.out _ _ (ext0 hE e2) (fun _ _ z => Is.ext z e2) (Is.strs o2 (fun s hs => callS_small HR2.out s hs) n4 (by rw [List.length_map]; exact HN4.out))
          | i + 5, hi, _ => exact absurd hi (by omega)
        case final =>
          intro y W hE hR
          have hd1 : Is (.o w1.heap.size 1 [w_call]) (y 1) W := hR 1 (by omega)
          have hd4 : Is (.d n4 (strsD (r.calls.map callS))) (y 4) W := hR 4 (by omega)
          obtain ⟨ia1, ic1, hv1, hd1⟩ := hd1
          obtain ⟨ia4, ic4, hv4, hd4⟩ := hd4
          clear hR
          simp only [Fill, fillTmps, Act.put, List.setIfInBounds_toArray, List.set_cons_zero, List.set_cons_succ, hv1, hv4]
          rw [hv1] at hd1
          rw [hv4] at hd4
          simp only [List.drop_succ_cons, List.drop_zero]
          obtain ⟨hi, hz0, hz1, hz2⟩ := HI.out
          have hown : W.ownsRow w1.heap.size 9 1 (.slice ia1 1 ic1) 1 ([w_call].map .string) := hd1
          have hmE := toHid (ext0 HC.out.2 hE)
          have hdd := toHid hd4
          have hd1' := toHid hd1
          clear hd1 hd4
          have hss : (r.calls.map callS).length = n4 := by rw [List.length_map]; exact HN4.out
          rcases ia4 with _ | ad
          · have hl0 : n4 = 0 := by
              obtain ⟨_, _, hnone, _, _, hll2⟩ := hdd.out.l_inv
              simp only [List.cons.injEq, Value.slice.injEq, and_true] at hnone
              obtain ⟨rfl, hq, rfl⟩ := hnone
              rw [List.length_map] at hq hll2
              rcases Nat.eq_zero_or_pos (r.calls.map callS).length with h | h
              · omega
              · obtain ⟨_, _, hh, _⟩ := hll2 h
                cases hh
            subst hl0
            have hnil : r.calls.map callS = [] := List.length_eq_zero_iff.1 hss
            have hrun := fun ty => append_nothing (P := Tryz.prog) w1.heap.size 59 ty 9 i0 1 ic4 Tryz.underlying59 hi (.slice ia1 1 ic1) 1 _ hown
            go_wp2_with (first | (at_builtin; refine Lib.wpList_append_run _ rfl (.tmp 16) (.tmp 19) 59 59 rfl _ _ rfl rfl _ _ (hrun _) ?_))
            have HO : Hid (OwnS W w1.heap.size (.slice ia1 1 ic1) (w_call :: r.calls.map callS)) := by rw [hnil]; exact hd1'.out
            have HE := hmE
            go_meet
            obtain ⟨ae, ce, hve, _⟩ := own_gen (show World.ownsRow _ _ _ _ _ (w_call :: r.calls.map callS).length _ from HO.out)
            rw [List.length_cons, hss] at hve
            exact ⟨⟨ae, ce, by rw [hve, ← HNE.out]; simp [endsS, hcne, hss]⟩, by unfold endsS; rw [if_neg hcne]; exact HO.out, HE.out⟩
          · have hone : ∀ u ∈ (r.calls.map callS).map Value.string, u.oneCell' = true := fun u hu => by
              obtain ⟨s, _, rfl⟩ := List.mem_map.1 hu
              rfl
            have hread := read_at hdd.out
            have hfew : n4 ≤ 100 := by have := HM.out.few; have := HN3.out; have := HN4.out; omega
            go_wp2_with (first | (at_builtin; refine wpList_append_own _ rfl (.tmp 16) (.tmp 19) 59 rfl w1.heap.size 9 i0 _ 1 16 Tryz.underlying59 hi hz0 hz1 hz2 rfl (by decide) _ 1 _ rfl hown ad n4 ic4 ((r.calls.map callS).map .string) rfl (by rw [List.length_map, hss]; omega) hread hone (by unfold maxLen; omega) (by omega) hmE.out.size ?_))
            intro v' w' hown' hgrow _
            have HO : Hid (OwnS w' w1.heap.size v' (w_call :: r.calls.map callS)) := ends_own (by rw [hss]; simpa [List.map_map] using hown')
            have HE : Hid (Ext Nope w1 w') := Ext.grown hmE.out hgrow (fun g hg hlt => absurd hlt (by have := (World.ownsRow.lt hown g hg).1; omega))
            clear hown' hgrow hown hone hread hi hz0 hz1 hz2
            go_wp2_with fail
            go_meet
            obtain ⟨ae, ce, hve, _⟩ := own_gen (show World.ownsRow _ _ _ _ _ (w_call :: r.calls.map callS).length _ from HO.out)
            rw [List.length_cons, hss] at hve
            exact ⟨⟨ae, ce, by rw [hve, ← HNE.out]; simp [endsS, hcne, hss]⟩, by unfold endsS; rw [if_neg hcne]; exact HO.out, HE.out⟩
    case rest =>
      obtain ⟨⟨ae, ce, rfl⟩, ho, he⟩ := hcut
      rename World => wd
      have HD := toHid (show _ ∧ _ from ⟨ho, he⟩)
      clear ho he
      have HES : Hid (Rd (fun _ => True) wd [.slice ae ne ce] (strsD (endsS r))) := OwnS.rd HD.out.1 (fun _ _ => trivial) (fun s hs => by
        have h1 : s ∈ (ruleSS r).flatten := by simp [ruleSS, hs]
        have h2 := lineC_mem h1
        have h3 := HL.out
        rw [List.length_append] at h3
        unfold maxLen; omega)
      have hfl : Hid (∀ s ∈ (ruleSS r).flatten, s.size ≤ 1000000) := fun s hs => by
        have h2 := lineC_mem hs
        have h3 := HL.out
        rw [List.length_append] at h3
        omega
      go_upto_region 4 with fail
      refine wp_region_inv 18 [21, 22, 23, 24, 25, 26, 27, 28, 29, 30, 31, 32, 33, 34, 35, 36, 37, 38] (fun W => Ext Nope wd W) (fun i v W => Is ([.v (ptr b), .d 1 (strsD [k_rule]), .d 1 (strsD [k_rule]), .v (.pointer (some ⟨X, 0, none⟩)), .v (.slice a0 n0 c0), .d n0 (strsD (r.back.map setS)), .d 1 (strsD [k_bar]), .d 1 (strsD [k_bar]), .v (.pointer (some ⟨X, 1, none⟩)), .v (.slice a1 n1 c1), .d n1 (strsD (r.in_.map setS)), .d 1 (strsD [k_bar]), .d 1 (strsD [k_bar]), .v (.pointer (some ⟨X, 2, none⟩)), .v (.slice a2 n2 c2), .d n2 (strsD (r.ahead.map setS)), .d ne (strsD (endsS r)), .d 7 (.l 1 ((ruleSS r).map strsD))].getD i (.v undef)) v W) (by kernel_rfl) (by kernel_rfl) (by kernel_rfl) (by kernel_rfl) (Ext.refl _ _).drew ?step ?final
      case step =>
        intro i oi hi hoi y W hE hdep K hK
        obtain ⟨x0, x1, x2, x3, x4⟩ := SK.out W (ext0 HD.out.2 hE)
        match i, hi, hoi with
        | 0, _, hoi =>
          obtain rfl := (Option.some.inj hoi).symm
          replace hK : ∀ v W', _ → _ → _ → K ((Fill _ _ y).put (some 21) v) W' := hK.out
          simp only [Fill, fillTmps, Act.put, List.setIfInBounds_toArray, List.set_cons_zero, List.set_cons_succ] at hK ⊢
          clear hdep
          replace hK := toHid hK
          go_simp
          exact hK.out _ _ hE (fun _ _ z => z) rfl
        | 1, _, hoi =>
          obtain rfl := (Option.some.inj hoi).symm
          replace hK : ∀ v W', _ → _ → _ → K ((Fill _ _ y).put (some 22) v) W' := hK.out
          simp only [Fill, fillTmps, Act.put, List.setIfInBounds_toArray, List.set_cons_zero, List.set_cons_succ] at hK ⊢
          clear hdep
          replace hK := toHid hK
          go_simp
          refine hK.out _ _ (hE.alloc _) (fun _ _ z => Is.ext z ((Ext.refl _ _).alloc _)) (Is.strB (l := [k_rule]) (heap_alloc_new W _) ?_ 1 rfl (by omega))
          intro s hs
          simp at hs
          subst hs
          decide
        | 2, _, hoi =>
          obtain rfl := (Option.some.inj hoi).symm
          have hd1 : Is (.d 1 (strsD [k_rule])) (y 1) W := hdep ⟨1, .data⟩ (by simp) rfl
          obtain ⟨ia1, ic1, hv1, hd1⟩ := hd1
          replace hK : ∀ v W', _ → _ → _ → K ((Fill _ _ y).put (some 23) v) W' := hK.out
          simp only [Fill, fillTmps, Act.put, List.setIfInBounds_toArray, List.set_cons_zero, List.set_cons_succ, hv1] at hK ⊢
          rw [hv1] at hd1
          clear hdep
          replace hK := toHid hK
          go_simp
          refine (parts_write _ _ _ _).mono ?_
          rintro e w2 ⟨rfl, rfl⟩
          try go_simp
          exact hK.out _ _ hE (fun _ _ z => z) ⟨_, _, rfl, hd1⟩
        | 3, _, hoi =>
          obtain rfl := (Option.some.inj hoi).symm
          replace hK : ∀ v W', _ → _ → _ → K ((Fill _ _ y).put (some 24) v) W' := hK.out
          simp only [Fill, fillTmps, Act.put, List.setIfInBounds_toArray, List.set_cons_zero, List.set_cons_succ] at hK ⊢
          clear hdep
          replace hK := toHid hK
          go_simp
          exact hK.out _ _ hE (fun _ _ z => z) rfl
        | 4, _, hoi =>
          obtain rfl := (Option.some.inj hoi).symm
          have hd3 : Is (.v (.pointer (some ⟨X, 0, none⟩))) (y 3) W := hdep ⟨3, .data⟩ (by simp) rfl
          have hd3 : y 3 = (.pointer (some ⟨X, 0, none⟩)) := hd3
          replace hK : ∀ v W', _ → _ → _ → K ((Fill _ _ y).put (some 25) v) W' := hK.out
          simp only [Fill, fillTmps, Act.put, List.setIfInBounds_toArray, List.set_cons_zero, List.set_cons_succ, hd3] at hK ⊢
          clear hdep
          replace hK := toHid hK
          go_simp
          exact hK.out _ _ hE (fun _ _ z => z) rfl
        | 5, _, hoi =>
          obtain rfl := (Option.some.inj hoi).symm
          have hd4 : Is (.v (.slice a0 n0 c0)) (y 4) W := hdep ⟨4, .data⟩ (by simp) rfl
          have hd4 : y 4 = (.slice a0 n0 c0) := hd4
          replace hK : ∀ v W', _ → _ → _ → K ((Fill _ _ y).put (some 26) v) W' := hK.out
          simp only [Fill, fillTmps, Act.put, List.setIfInBounds_toArray, List.set_cons_zero, List.set_cons_succ, hd4] at hK ⊢
          clear hdep
          replace hK := toHid hK
          go_simp
          refine (writes_sets ent_set (((HR.out.1.ext0 H1.out.1).ext0 HD.out.2).ext0 hE) (ss := r.back.map setS) (by simp) (by have := HM.out.few; simp; omega) (caps := #[]) (writes_set ((H1.out.2.2.2.1.ext0 HD.out.2).ext0 hE) HM.out.back)).mono ?_
          rintro e w2 ⟨v2, rfl, o2, e2⟩
          try go_simp
          exact hK.out _ _ (ext0 hE e2) (fun _ _ z => Is.ext z e2) (Is.strs o2 (fun s hs => hfl.out s (by simp only [ruleSS, List.flatten_cons, List.mem_append]; simp only [hs, true_or, or_true])) n0 (by rw [List.length_map]; exact HN0.out))
        | 6, _, hoi =>
          obtain rfl := (Option.some.inj hoi).symm
          replace hK : ∀ v W', _ → _ → _ → K ((Fill _ _ y).put (some 27) v) W' := hK.out
          simp only [Fill, fillTmps, Act.put, List.setIfInBounds_toArray, List.set_cons_zero, List.set_cons_succ] at hK ⊢
          clear hdep
          replace hK := toHid hK
          go_simp
          refine hK.out _ _ (hE.alloc _) (fun _ _ z => Is.ext z ((Ext.refl _ _).alloc _)) (Is.strB (l := [k_bar]) (heap_alloc_new W _) ?_ 1 rfl (by omega))
          intro s hs
          simp at hs
          subst hs
          decide
        | 7, _, hoi =>
          obtain rfl := (Option.some.inj hoi).symm
          have hd6 : Is (.d 1 (strsD [k_bar])) (y 6) W := hdep ⟨6, .data⟩ (by simp) rfl
          obtain ⟨ia6, ic6, hv6, hd6⟩ := hd6
          replace hK : ∀ v W', _ → _ → _ → K ((Fill _ _ y).put (some 28) v) W' := hK.out
          simp only [Fill, fillTmps, Act.put, List.setIfInBounds_toArray, List.set_cons_zero, List.set_cons_succ, hv6] at hK ⊢
          rw [hv6] at hd6
          clear hdep
          replace hK := toHid hK
          go_simp
          refine (parts_write _ _ _ _).mono ?_
          rintro e w2 ⟨rfl, rfl⟩
          try go_simp
          exact hK.out _ _ hE (fun _ _ z => z) ⟨_, _, rfl, hd6⟩
        | 8, _, hoi =>
          obtain rfl := (Option.some.inj hoi).symm
          replace hK : ∀ v W', _ → _ → _ → K ((Fill _ _ y).put (some 29) v) W' := hK.out
          simp only [Fill, fillTmps, Act.put, List.setIfInBounds_toArray, List.set_cons_zero, List.set_cons_succ] at hK ⊢
          clear hdep
          replace hK := toHid hK
          go_simp
          exact hK.out _ _ hE (fun _ _ z => z) rfl
        | 9, _, hoi =>
          obtain rfl := (Option.some.inj hoi).symm
          have hd8 : Is (.v (.pointer (some ⟨X, 1, none⟩))) (y 8) W := hdep ⟨8, .data⟩ (by simp) rfl
          have hd8 : y 8 = (.pointer (some ⟨X, 1, none⟩)) := hd8
          replace hK : ∀ v W', _ → _ → _ → K ((Fill _ _ y).put (some 30) v) W' := hK.out
          simp only [Fill, fillTmps, Act.put, List.setIfInBounds_toArray, List.set_cons_zero, List.set_cons_succ, hd8] at hK ⊢
          clear hdep
          replace hK := toHid hK
          go_simp
          exact hK.out _ _ hE (fun _ _ z => z) rfl
        | 10, _, hoi =>
          obtain rfl := (Option.some.inj hoi).symm
          have hd9 : Is (.v (.slice a1 n1 c1)) (y 9) W := hdep ⟨9, .data⟩ (by simp) rfl
          have hd9 : y 9 = (.slice a1 n1 c1) := hd9
          replace hK : ∀ v W', _ → _ → _ → K ((Fill _ _ y).put (some 31) v) W' := hK.out
          simp only [Fill, fillTmps, Act.put, List.setIfInBounds_toArray, List.set_cons_zero, List.set_cons_succ, hd9] at hK ⊢
          clear hdep
          replace hK := toHid hK
          go_simp
          refine (writes_sets ent_set (((HR.out.2.1.ext0 H1.out.1).ext0 HD.out.2).ext0 hE) (ss := r.in_.map setS) (by simp) (by have := HM.out.few; simp; omega) (caps := #[]) (writes_set ((H1.out.2.2.2.1.ext0 HD.out.2).ext0 hE) HM.out.in_)).mono ?_
          rintro e w2 ⟨v2, rfl, o2, e2⟩
          try go_simp
          exact hK.out _ _ (ext0 hE e2) (fun _ _ z => Is.ext z e2) (Is.strs o2 (fun s hs => hfl.out s (by simp only [ruleSS, List.flatten_cons, List.mem_append]; simp only [hs, true_or, or_true])) n1 (by rw [List.length_map]; exact HN1.out))
        | 11, _, hoi =>
          obtain rfl := (Option.some.inj hoi).symm
          replace hK : ∀ v W', _ → _ → _ → K ((Fill _ _ y).put (some 32) v) W' := hK.out
          simp only [Fill, fillTmps, Act.put, List.setIfInBounds_toArray, List.set_cons_zero, List.set_cons_succ] at hK ⊢
          clear hdep
          replace hK := toHid hK
          go_simp
          refine hK.out _ _ (hE.alloc _) (fun _ _ z => Is.ext z ((Ext.refl _ _).alloc _)) (Is.strB (l := [k_bar]) (heap_alloc_new W _) ?_ 1 rfl (by omega))
          intro s hs
          simp at hs
          subst hs
          decide
        | 12, _, hoi =>
          obtain rfl := (Option.some.inj hoi).symm
          have hd11 : Is (.d 1 (strsD [k_bar])) (y 11) W := hdep ⟨11, .data⟩ (by simp) rfl
          obtain ⟨ia11, ic11, hv11, hd11⟩ := hd11
          replace hK : ∀ v W', _ → _ → _ → K ((Fill _ _ y).put (some 33) v) W' := hK.out
          simp only [Fill, fillTmps, Act.put, List.setIfInBounds_toArray, List.set_cons_zero, List.set_cons_succ, hv11] at hK ⊢
          rw [hv11] at hd11
          clear hdep
          replace hK := toHid hK
          go_simp
          refine (parts_write _ _ _ _).mono ?_
          rintro e w2 ⟨rfl, rfl⟩
          try go_simp
          exact hK.out _ _ hE (fun _ _ z => z) ⟨_, _, rfl, hd11⟩
        | 13, _, hoi =>
          obtain rfl := (Option.some.inj hoi).symm
          replace hK : ∀ v W', _ → _ → _ → K ((Fill _ _ y).put (some 34) v) W' := hK.out
          simp only [Fill, fillTmps, Act.put, List.setIfInBounds_toArray, List.set_cons_zero, List.set_cons_succ] at hK ⊢
          clear hdep
          replace hK := toHid hK
          go_simp
          exact hK.out _ _ hE (fun _ _ z => z) rfl
        | 14, _, hoi =>
          obtain rfl := (Option.some.inj hoi).symm
          have hd13 : Is (.v (.pointer (some ⟨X, 2, none⟩))) (y 13) W := hdep ⟨13, .data⟩ (by simp) rfl
          have hd13 : y 13 = (.pointer (some ⟨X, 2, none⟩)) := hd13
          replace hK : ∀ v W', _ → _ → _ → K ((Fill _ _ y).put (some 35) v) W' := hK.out
          simp only [Fill, fillTmps, Act.put, List.setIfInBounds_toArray, List.set_cons_zero, List.set_cons_succ, hd13] at hK ⊢
          clear hdep
          replace hK := toHid hK
          go_simp
          exact hK.out _ _ hE (fun _ _ z => z) rfl
        | 15, _, hoi =>
          obtain rfl := (Option.some.inj hoi).symm
          have hd14 : Is (.v (.slice a2 n2 c2)) (y 14) W := hdep ⟨14, .data⟩ (by simp) rfl
          have hd14 : y 14 = (.slice a2 n2 c2) := hd14
          replace hK : ∀ v W', _ → _ → _ → K ((Fill _ _ y).put (some 36) v) W' := hK.out
          simp only [Fill, fillTmps, Act.put, List.setIfInBounds_toArray, List.set_cons_zero, List.set_cons_succ, hd14] at hK ⊢
          clear hdep
          replace hK := toHid hK
          go_simp
          refine (writes_sets ent_set (((HR.out.2.2.1.ext0 H1.out.1).ext0 HD.out.2).ext0 hE) (ss := r.ahead.map setS) (by simp) (by have := HM.out.few; simp; omega) (caps := #[]) (writes_set ((H1.out.2.2.2.1.ext0 HD.out.2).ext0 hE) HM.out.ahead)).mono ?_
          rintro e w2 ⟨v2, rfl, o2, e2⟩
          try go_simp
          exact hK.out _ _ (ext0 hE e2) (fun _ _ z => Is.ext z e2) (Is.strs o2 (fun s hs => hfl.out s (by simp only [ruleSS, List.flatten_cons, List.mem_append]; simp only [hs, true_or, or_true])) n2 (by rw [List.length_map]; exact HN2.out))
        | 16, _, hoi =>
          obtain rfl := (Option.some.inj hoi).symm
          replace hK : ∀ v W', _ → _ → _ → K ((Fill _ _ y).put (some 37) v) W' := hK.out
          simp only [Fill, fillTmps, Act.put, List.setIfInBounds_toArray, List.set_cons_zero, List.set_cons_succ] at hK ⊢
          clear hdep
          replace hK := toHid hK
          go_simp
          exact hK.out _ _ hE (fun _ _ z => z) ⟨_, _, rfl, HES.out.ext0 hE⟩
        | 17, _, hoi =>
          obtain rfl := (Option.some.inj hoi).symm
          have hd2 : Is (.d 1 (strsD [k_rule])) (y 2) W := hdep ⟨2, .data⟩ (by simp) rfl
          have hd5 : Is (.d n0 (strsD (r.back.map setS))) (y 5) W := hdep ⟨5, .data⟩ (by simp) rfl
          have hd7 : Is (.d 1 (strsD [k_bar])) (y 7) W := hdep ⟨7, .data⟩ (by simp) rfl
          have hd10 : Is (.d n1 (strsD (r.in_.map setS))) (y 10) W := hdep ⟨10, .data⟩ (by simp) rfl
          have hd12 : Is (.d 1 (strsD [k_bar])) (y 12) W := hdep ⟨12, .data⟩ (by simp) rfl
          have hd15 : Is (.d n2 (strsD (r.ahead.map setS))) (y 15) W := hdep ⟨15, .data⟩ (by simp) rfl
          have hd16 : Is (.d ne (strsD (endsS r))) (y 16) W := hdep ⟨16, .data⟩ (by simp) rfl
          obtain ⟨ia2, ic2, hv2, hd2⟩ := hd2
          obtain ⟨ia5, ic5, hv5, hd5⟩ := hd5
          obtain ⟨ia7, ic7, hv7, hd7⟩ := hd7
          obtain ⟨ia10, ic10, hv10, hd10⟩ := hd10
          obtain ⟨ia12, ic12, hv12, hd12⟩ := hd12
          obtain ⟨ia15, ic15, hv15, hd15⟩ := hd15
          obtain ⟨ia16, ic16, hv16, hd16⟩ := hd16
          replace hK : ∀ v W', _ → _ → _ → K ((Fill _ _ y).put (some 38) v) W' := hK.out
          simp only [Fill, fillTmps, Act.put, List.setIfInBounds_toArray, List.set_cons_zero, List.set_cons_succ, hv2, hv5, hv7, hv10, hv12, hv15, hv16] at hK ⊢
          rw [hv2] at hd2
          rw [hv5] at hd5
          rw [hv7] at hd7
          rw [hv10] at hd10
          rw [hv12] at hd12
          rw [hv15] at hd15
          rw [hv16] at hd16
          clear hdep
          replace hK := toHid hK
          go_simp
          refine hK.out _ _ (hE.alloc _) (fun _ _ z => Is.ext z ((Ext.refl _ _).alloc _)) (Is.lists (ls := ruleSS r) (heap_alloc_new W _) 7 rfl (by omega) ?_)
          intro k l hk
          match k, hk with
          | 0, hk => cases hk; exact ⟨_, rfl, hd2.ext0 ((Ext.refl _ _).alloc _)⟩
          | 1, hk => cases hk; exact ⟨_, rfl, hd5.ext0 ((Ext.refl _ _).alloc _)⟩
          | 2, hk => cases hk; exact ⟨_, rfl, hd7.ext0 ((Ext.refl _ _).alloc _)⟩
          | 3, hk => cases hk; exact ⟨_, rfl, hd10.ext0 ((Ext.refl _ _).alloc _)⟩
          | 4, hk => cases hk; exact ⟨_, rfl, hd12.ext0 ((Ext.refl _ _).alloc _)⟩
          | 5, hk => cases hk; exact ⟨_, rfl, hd15.ext0 ((Ext.refl _ _).alloc _)⟩
          | 6, hk => cases hk; exact ⟨_, rfl, hd16.ext0 ((Ext.refl _ _).alloc _)⟩
        | i + 18, hi, _ => exact absurd hi (by omega)
      case final =>
        intro y W hE hR
        have hd0 : Is (.v (ptr b)) (y 0) W := hR 0 (by omega)
        have hd17 : Is (.d 7 (.l 1 ((ruleSS r).map strsD))) (y 17) W := hR 17 (by omega)
        have hd0 : y 0 = (ptr b) := hd0
        obtain ⟨ia17, ic17, hv17, hd17⟩ := hd17
        clear hR
        simp only [Fill, fillTmps, Act.put, List.setIfInBounds_toArray, List.set_cons_zero, List.set_cons_succ, hd0, hv17]
        rw [hv17] at hd17
        simp only [List.drop_succ_cons, List.drop_zero]
        go_wp2_with fail
        refine (line_ok ((H1.out.2.2.1.ext0 HD.out.2).ext0 hE) (Nat.le_trans H1.out.2.2.2.2.1 (by have := HX.out; have := hE.size; have := HD.out.2.size; omega)) hd17 (by simp [ruleSS]) (by simp [ruleSS]) HL.out).mono ?_
        rintro e w2 ⟨rfl, b2, e2⟩
        have H5 := toHid (show _ ∧ _ from ⟨b2, Wr.trans ((ext0 (ext0 H1.out.1 HD.out.2) hE).mono (fun _ z => z.elim)) e2⟩)
        clear b2 e2 hd17 hE
        go_wp2_with fail
        go_end0
        exact ⟨rfl, H5.out⟩
end Go.Proofs.YtajebdpalnpjdaaGreatDoor
