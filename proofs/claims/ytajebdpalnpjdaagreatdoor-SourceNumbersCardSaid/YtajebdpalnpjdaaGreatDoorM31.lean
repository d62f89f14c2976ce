/-
  The lines of a glyph.
-/
import Derived.Test.YtajebdpalnpjdaaGreatDoorM30
namespace Go.Proofs.YtajebdpalnpjdaaGreatDoor
open Go.RowKit
attribute [local go_sem] alloc_drewN setCell_drewN

theorem joinC_mem {c : UInt8} : ∀ {l : List (List UInt8)} {x : List UInt8}, x ∈ l → x.length ≤ (joinC c l).length
  | [y], x, h => by
    have : x = y := by simpa using h
    subst this
    exact Nat.le_refl _
  | y :: z :: r, x, h => by
    show x.length ≤ (y ++ c :: joinC c (z :: r)).length
    rw [List.length_append, List.length_cons]
    rcases List.mem_cons.1 h with rfl | h
    · omega
    · have := joinC_mem (c := c) h
      omega
theorem lineC_len (ss : List ByteArray) : (lineC ss).length = (joinB 32 ss).size + 1 := by
  show _ = (joinC 32 (ss.map fun p => p.data.toList)).toArray.size + 1
  simp [lineC]
theorem lineC_mem {ss : List ByteArray} {s : ByteArray} (h : s ∈ ss) : s.size ≤ (lineC ss).length := by
  have := joinC_mem (c := 32) (List.mem_map_of_mem (f := fun p : ByteArray => p.data.toList) h)
  have hh : s.size = s.data.toList.length := rfl
  rw [hh]
  unfold lineC
  rw [List.length_append]
  omega
theorem lineC_count (ss : List ByteArray) : ss.length ≤ (lineC ss).length := by
  have := joinB_len 32 ss
  rw [lineC_len]
  exact this
/-- writer.line, of a line that is not too long. -/
theorem line_ok {A : Nat → Prop} {w : World} {B b : Nat} {l : List UInt8} {v : Value} {ls : List (List ByteArray)} (h : WB w B b l) (hB : B ≤ w.heap.size) (hr : Rd A w [v] (.l 1 (ls.map strsD))) (h0 : 0 < ls.flatten.length) (hls : ls.length ≤ 100) (hlen : (l ++ lineC ls.flatten).length ≤ 100000) :
    Calls Tryz.prog 37 #[ptr b, v] w fun e w' => e = .returned (.tuple #[]) ∧ WB w' B b (l ++ lineC ls.flatten) ∧ Ext (Wr w B b) w w' := by
  rw [List.length_append] at hlen
  refine line_calls h hB hr h0 (by have := lineC_count ls.flatten; omega) (by omega) (by have := lineC_len ls.flatten; omega) (fun s hs => by have := lineC_mem hs; omega) (by omega)
theorem ent_point : Enters 105 := enters_of Tryz.func105 (by kernel_rfl) rfl
theorem writes_point {A : Nat → Prop} {w : World} (G : Glob w) {c : List PtA} : Writes 105 #[] w (ElS A (c.map ptD)) (c.map ptText) := by
  intro k W u s hs hE hu
  obtain ⟨p, hp, rfl, h1, h2⟩ := hu.pt
  rw [List.getElem?_map, hp] at hs
  have hs : ptText p = s := by simpa using hs
  subst hs
  exact point_write (G.ext0 hE) h1 h2
theorem ent_insw : Enters 110 := enters_of Tryz.func110 (by kernel_rfl) rfl
/-- An instruction that is met. -/
def InsM (x : Int × Int) : Prop := x = (1, 5) ∨ x = (17, 1)
theorem writes_insw {A : Nat → Prop} {w : World} (G : Glob w) {c : List (Int × Int)} (hc : ∀ x ∈ c, InsM x) {ab kb : Nat} (hab : w.heap[ab]? = some (.cells #[.slice (some ⟨kb, 0, none⟩) 26 26] 59 (0, 0))) (hkb : w.heap[kb]? = some (.cells (kwords.map Value.string).toArray 9 (0, 0))) :
    Writes 110 #[ptr ab] w (ElS A (c.map pairD)) (c.map insS) := by
  intro k W u s hs hE hu
  obtain ⟨x, cs, rfl, hx, hr⟩ := hu
  rw [List.getElem?_map] at hx hs
  obtain ⟨p, hp, rfl⟩ := Option.map_eq_some_iff.1 hx
  rw [hp] at hs
  have hs : insS p = s := by simpa using hs
  subst hs
  obtain ⟨_, rfl, _, hr⟩ := hr.ri
  obtain ⟨_, rfl, _, hr⟩ := hr.ri
  obtain rfl := hr.r_nil
  have h1 := (hE.block _ (lt_of_heap hab) (fun z => z)).trans hab
  have h2 := (hE.block _ (lt_of_heap hkb) (fun z => z)).trans hkb
  rcases hc p (List.mem_of_getElem? hp) with rfl | rfl
  · exact ins_push (G.ext0 hE) h1 h2
  · exact ins_setx (G.ext0 hE) h1 h2
/-- The text of a glyph. -/
def contoursC (cs : List (List PtA)) : List UInt8 := cs.flatMap fun c => lineC (k_contour :: c.map ptText)
def progC (p : List (Int × Int)) : List UInt8 := if p = [] then [] else lineC (k_program :: p.map insS)
def glyphC (g : GlyphA) : List UInt8 := lineC [k_glyph, num g.advance] ++ contoursC g.contours ++ progC g.program
theorem contoursC_succ {cs : List (List PtA)} {k : Nat} {c : List PtA} (h : cs[k]? = some c) : contoursC (cs.take (k + 1)) = contoursC (cs.take k) ++ lineC (k_contour :: c.map ptText) := by
  have hk := (List.getElem?_eq_some_iff.1 h).1
  unfold contoursC
  rw [List.take_succ_eq_append_getElem hk, (List.getElem?_eq_some_iff.1 h).2]
  simp
theorem contoursC_le (cs : List (List PtA)) (k : Nat) : (contoursC (cs.take k)).length ≤ (contoursC cs).length := by
  have : contoursC cs = contoursC (cs.take k) ++ contoursC (cs.drop k) := by
    unfold contoursC
    rw [← List.flatMap_append, List.take_append_drop]
  rw [this, List.length_append]
  omega
set_option maxRecDepth 100000 in
set_option maxHeartbeats 16000000 in
/-- writer.glyph, of a glyph without anchors and deltas -/
theorem glyph_write {A : Nat → Prop} {w : World} (G : Glob w) {B b : Nat} {l : List UInt8} (h : WB w B b l) (hB : B ≤ w.heap.size) {g : GlyphA} (hp : Plain g) (hpr : ∀ x ∈ g.program, InsM x) {cs : List Value} (hr : Rd A w cs (glyphD g)) (hA : ∀ k, A k → k < B) (h64 : 11 ≤ B) (hlen : (l ++ glyphC g).length ≤ 100000) :
    Calls Tryz.prog 43 #[ptr b, .agg cs.toArray] w fun e w' => e = .returned (.tuple #[]) ∧ WB w' B b (l ++ glyphC g) ∧ Ext (Wr w B b) w w' := by
  obtain ⟨v0, v1, v6, v7, rfl, h0, h1, h5, h6, h7⟩ := hr.glyph
  have o0 := store_one (P := Tryz.prog) (h0.one v0 (by simp))
  have o1 := store_one (P := Tryz.prog) (h1.one v1 (by simp))
  have o6 := store_one (P := Tryz.prog) (h6.one v6 (by simp))
  have o7 := store_one (P := Tryz.prog) (h7.one v7 (by simp))
  rw [hp.anchors] at h1
  rw [hp.deltas] at h6
  have hg0 : g.hang = ⟨0, 0, 0⟩ := hp.hang
  obtain ⟨cont, anch, ⟨hc, hx, hy⟩, adv, dels, prog⟩ := g
  simp only [AnchorA.mk.injEq] at hg0
  obtain ⟨rfl, rfl, rfl⟩ := hg0
  obtain ⟨a0, c0, hv0, hc01, hc02⟩ := h0.len
  obtain ⟨a1, c1, hv1, _⟩ := h1.len
  obtain ⟨a6, c6, hv6, _⟩ := h6.len
  obtain ⟨a7, c7, hv7, _⟩ := h7.len
  rw [List.length_map] at hv0 hv7
  obtain ⟨nc, HNC⟩ : ∃ n, Hid (cont.length = n) := ⟨_, rfl⟩
  obtain ⟨np, HNP⟩ : ∃ n, Hid (prog.length = n) := ⟨_, rfl⟩
  simp only at hv0 hv7
  rw [HNC.out] at hv0
  have hnc : nc ≤ 9223372036854775807 := by
    rw [List.length_map] at hc01
    have := HNC.out
    have h1 : cont.length ≤ c0 := hc01
    omega
  clear hc01 hc02
  rw [HNP.out] at hv7
  have hv1 : v1 = .slice a1 0 c1 := hv1
  have hv6 : v6 = .slice a6 0 c6 := hv6
  subst hv0 hv1 hv6 hv7
  have hbl := h.le
  have H0 := toHid (show _ ∧ _ ∧ _ ∧ _ from ⟨h0, h7, hA, hpr⟩)
  have HL := toHid (show _ ∧ _ from ⟨hlen, h5⟩)
  have e1 : Ext Nope w ((w.alloc (.cells #[ptr b] 91)).alloc (.cells #[.slice a0 nc c0, .slice a1 0 c1, .int .i64 0, .int .i64 0, .int .i64 0, .int .i64 adv, .slice a6 0 c6, .slice a7 np c7] 47)) := ((Ext.refl _ _).alloc _).alloc _
  have hz1 : ((w.alloc (.cells #[ptr b] 91)).alloc (.cells #[.slice a0 nc c0, .slice a1 0 c1, .int .i64 0, .int .i64 0, .int .i64 0, .int .i64 adv, .slice a6 0 c6, .slice a7 np c7] 47)).heap[w.heap.size]? = some (.cells #[ptr b] 91 (0, 0)) := (heap_alloc_old _ _ _ (by simp)).trans (heap_alloc_new w _)
  have hz2 := heap_alloc_at (w.alloc (.cells #[ptr b] 91)) (.cells #[.slice a0 nc c0, .slice a1 0 c1, .int .i64 0, .int .i64 0, .int .i64 0, .int .i64 adv, .slice a6 0 c6, .slice a7 np c7] 47) (w.heap.size + 1) (by simp)
  have H1 := toHid (show _ ∧ _ ∧ _ ∧ _ ∧ _ ∧ _ from ⟨e1, hz1, hz2, h.ext0 e1, G.ext0 e1, hB⟩)
  clear e1 hz1 hz2 h G hB hlen h0 h1 h5 h6 h7 hr hA hpr hp
  go_enter Tryz.func43, Tryz.ntmps43
  go_upto_region 1 with fail
  obtain ⟨X, HX⟩ : ∃ X, Hid (w.heap.size = X) := ⟨_, rfl⟩
  rw [HX.out] at H1 ⊢
  generalize (w.alloc (.cells #[ptr b] 91)).alloc (.cells #[.slice a0 nc c0, .slice a1 0 c1, .int .i64 0, .int .i64 0, .int .i64 0, .int .i64 adv, .slice a6 0 c6, .slice a7 np c7] 47) = w1 at *
  -- what stands in the two boxes
  have SB : Hid (∀ (W0 W : World), W0.heap[X]? = some (.cells #[ptr b] 91 (0, 0)) → W0.heap[X + 1]? = some (.cells #[.slice a0 nc c0, .slice a1 0 c1, .int .i64 0, .int .i64 0, .int .i64 0, .int .i64 adv, .slice a6 0 c6, .slice a7 np c7] 47 (0, 0)) → Ext (Wr W0 B b) W0 W → W.heap[X]? = some (.cells #[ptr b] 91 (0, 0)) ∧ W.heap[X + 1]? = some (.cells #[.slice a0 nc c0, .slice a1 0 c1, .int .i64 0, .int .i64 0, .int .i64 0, .int .i64 adv, .slice a6 0 c6, .slice a7 np c7] 47 (0, 0))) := fun W0 W z1 z2 e =>
    ⟨(e.block _ (lt_of_heap z1) (Wr.other z1 (by decide) (by have := HX.out; omega))).trans z1, (e.block _ (lt_of_heap z2) (Wr.other z2 (by decide) (by have := HX.out; omega))).trans z2⟩
  have SK : Hid (∀ W, Ext Nope w1 W → W.cell? ⟨X, 0, none⟩ = some (ptr b) ∧ W.cell? ⟨X + 1, 5, none⟩ = some (.int .i64 adv)) := fun W e => by
    obtain ⟨z1, z2⟩ := SB.out w1 W H1.out.2.1 H1.out.2.2.1 (e.mono (fun _ z => z.elim))
    obtain ⟨_, _, _, _, _, z5, _⟩ := glyph_cells z2
    exact ⟨by rw [show (⟨X, 0, none⟩ : Addr) = at_ X 0 from rfl, cell_of_blk z1]; rfl, z5⟩
  refine wp_region_inv 8 [12, 13, 14, 15, 16, 17, 18, 19] (fun W => Ext Nope w1 W) (fun i v W => Is ([.v (ptr b), .d 1 (strsD [k_glyph]), .d 1 (strsD [k_glyph]), .v (.pointer (some ⟨X + 1, 5, none⟩)), .v (.int .i64 adv), .d 1 (intsD [adv]), .d 1 (strsD ([adv].map num)), .d 2 (.l 1 ([[k_glyph], [adv].map num].map strsD))].getD i (.v undef)) v W) (by kernel_rfl) (by kernel_rfl) (by kernel_rfl) (by kernel_rfl) (Ext.refl _ _).drew ?step ?final
  case step =>
    intro i oi hi hoi y W hE hdep K hK
    obtain ⟨c0, c1⟩ := SK.out W hE
    match i, hi, hoi with
    | 0, _, hoi =>
      obtain rfl := (Option.some.inj hoi).symm
      have hK := hK.out
      simp only [Fill, fillTmps, Act.put, List.setIfInBounds_toArray, List.set_cons_zero, List.set_cons_succ] at hK ⊢
      clear hdep
      replace hK := toHid hK
      go_simp
      exact hK.out _ _ hE (fun _ _ z => z) rfl
    | 1, _, hoi =>
      obtain rfl := (Option.some.inj hoi).symm
      have hK := hK.out
      simp only [Fill, fillTmps, Act.put, List.setIfInBounds_toArray, List.set_cons_zero, List.set_cons_succ] at hK ⊢
      clear hdep
      replace hK := toHid hK
      go_simp
      refine hK.out _ _ (hE.alloc _) (fun _ _ z => Is.ext z ((Ext.refl _ _).alloc _)) (Is.strB (l := [k_glyph]) (heap_alloc_new W _) ?_ 1 rfl (by omega))
      intro s hs
      simp at hs
      subst hs
      decide
    | 2, _, hoi =>
      obtain rfl := (Option.some.inj hoi).symm
      have hd1 : Is (.d 1 (strsD [k_glyph])) (y 1) W := hdep ⟨1, .data⟩ (by simp) rfl
      obtain ⟨ia1, ic1, hv1, hd1⟩ := hd1
      have hK := hK.out
      simp only [Fill, fillTmps, Act.put, List.setIfInBounds_toArray, List.set_cons_zero, List.set_cons_succ, hv1] at hK ⊢
      rw [hv1] at hd1
      clear hdep
      replace hK := toHid hK
      go_simp
      refine (parts_write _ _ _ _).mono ?_
      rintro e w2 ⟨rfl, rfl⟩
      try go_simp
      exact hK.out _ _ hE (fun _ _ z => z) ⟨_, _, rfl, hd1⟩
    | 3, _, hoi =>
      obtain rfl := (Option.some.inj hoi).symm
      have hK := hK.out
      simp only [Fill, fillTmps, Act.put, List.setIfInBounds_toArray, List.set_cons_zero, List.set_cons_succ] at hK ⊢
      clear hdep
      replace hK := toHid hK
      go_simp
      exact hK.out _ _ hE (fun _ _ z => z) rfl
    | 4, _, hoi =>
      obtain rfl := (Option.some.inj hoi).symm
      have hd3 : Is (.v (.pointer (some ⟨X + 1, 5, none⟩))) (y 3) W := hdep ⟨3, .data⟩ (by simp) rfl
      have hd3 : y 3 = (.pointer (some ⟨X + 1, 5, none⟩)) := hd3
      have hK := hK.out
      simp only [Fill, fillTmps, Act.put, List.setIfInBounds_toArray, List.set_cons_zero, List.set_cons_succ, hd3] at hK ⊢
      clear hdep
      replace hK := toHid hK
      go_simp
      exact hK.out _ _ hE (fun _ _ z => z) rfl
    | 5, _, hoi =>
      obtain rfl := (Option.some.inj hoi).symm
      have hd4 : Is (.v (.int .i64 adv)) (y 4) W := hdep ⟨4, .data⟩ (by simp) rfl
      have hd4 : y 4 = (.int .i64 adv) := hd4
      have hK := hK.out
      simp only [Fill, fillTmps, Act.put, List.setIfInBounds_toArray, List.set_cons_zero, List.set_cons_succ, hd4] at hK ⊢
      clear hdep
      replace hK := toHid hK
      go_simp
      refine hK.out _ _ (hE.alloc _) (fun _ _ z => Is.ext z ((Ext.refl _ _).alloc _)) (Is.intB (l := [adv]) (heap_alloc_new W _) ?_ 1 rfl (by omega))
      intro n hn
      simp at hn
      subst hn
      exact HL.out.2
    | 6, _, hoi =>
      obtain rfl := (Option.some.inj hoi).symm
      have hd5 : Is (.d 1 (intsD [adv])) (y 5) W := hdep ⟨5, .data⟩ (by simp) rfl
      obtain ⟨ia5, ic5, hv5, hd5⟩ := hd5
      have hK := hK.out
      simp only [Fill, fillTmps, Act.put, List.setIfInBounds_toArray, List.set_cons_zero, List.set_cons_succ, hv5] at hK ⊢
      rw [hv5] at hd5
      clear hdep
      replace hK := toHid hK
      go_simp
      refine (numbers_write (H1.out.2.2.2.2.1.ext0 hE) hd5 (fun n hn => by simp at hn; subst hn; exact HL.out.2) (by simp)).mono ?_
      rintro e w2 ⟨v2, rfl, o2, e2⟩
      try go_simp
      exact hK.out _ _ (ext0 hE e2) (fun _ _ z => Is.ext z e2) (Is.strs o2 (fun s hs => by simp at hs; subst hs; exact num_1m HL.out.2) 1 rfl)
    | 7, _, hoi =>
      obtain rfl := (Option.some.inj hoi).symm
      have hd2 : Is (.d 1 (strsD [k_glyph])) (y 2) W := hdep ⟨2, .data⟩ (by simp) rfl
      have hd6 : Is (.d 1 (strsD ([adv].map num))) (y 6) W := hdep ⟨6, .data⟩ (by simp) rfl
      obtain ⟨ia2, ic2, hv2, hd2⟩ := hd2
      obtain ⟨ia6, ic6, hv6, hd6⟩ := hd6
      have hK := hK.out
      simp only [Fill, fillTmps, Act.put, List.setIfInBounds_toArray, List.set_cons_zero, List.set_cons_succ, hv2, hv6] at hK ⊢
      rw [hv2] at hd2
      rw [hv6] at hd6
      clear hdep
      replace hK := toHid hK
      go_simp
      refine hK.out _ _ (hE.alloc _) (fun _ _ z => Is.ext z ((Ext.refl _ _).alloc _)) (Is.lists (ls := [[k_glyph], [adv].map num]) (heap_alloc_new W _) 2 rfl (by omega) ?_)
      intro k l hk
      match k, hk with
      | 0, hk => cases hk; exact ⟨_, rfl, hd2.ext0 ((Ext.refl _ _).alloc _)⟩
      | 1, hk => cases hk; exact ⟨_, rfl, hd6.ext0 ((Ext.refl _ _).alloc _)⟩
    | i + 8, hi, _ => exact absurd hi (by omega)
  case final =>
    intro y W hE hR
    have hd0 : Is (.v (ptr b)) (y 0) W := hR 0 (by omega)
    have hd7 : Is (.d 2 (.l 1 ([[k_glyph], [adv].map num].map strsD))) (y 7) W := hR 7 (by omega)
    have hd0 : y 0 = (ptr b) := hd0
    obtain ⟨ia7, ic7, hv7, hd7⟩ := hd7
    clear hR
    simp only [Fill, fillTmps, Act.put, List.setIfInBounds_toArray, List.set_cons_zero, List.set_cons_succ, hd0, hv7]
    rw [hv7] at hd7
    simp only [List.drop_succ_cons, List.drop_zero]
    go_wp2_with fail
    refine (line_ok (H1.out.2.2.2.1.ext0 hE) (Nat.le_trans H1.out.2.2.2.2.2 (by have := HX.out; have := hE.size; have := lt_of_heap H1.out.2.1; omega)) hd7 (by simp) (by simp) (by have := HL.out.1; simp only [glyphC, List.length_append] at this ⊢; simp only [List.flatten_cons, List.flatten_nil, List.map_cons, List.map_nil, List.append_nil, List.singleton_append] at this ⊢; omega)).mono ?_
    rintro e w2 ⟨rfl, b2, e2⟩
    have E2 : Ext (Wr w1 B b) w1 w2 := Wr.trans (hE.mono (fun _ z => z.elim)) e2
    obtain ⟨z1, z2⟩ := SB.out w1 w2 H1.out.2.1 H1.out.2.2.1 E2
    have b2' : WB w2 B b (l ++ lineC [k_glyph, num adv]) := b2
    have G2 : Glob w2 := H1.out.2.2.2.2.1.ext E2 (fun k hk z => ?gl)
    case gl => exact Wr.low hbl.1 (by omega) z
    have H2 := toHid (show _ ∧ _ ∧ _ ∧ _ ∧ _ from ⟨b2', z1, z2, G2, E2⟩)
    clear b2 b2' e2 z1 z2 hd7 hE SK E2 G2
    obtain ⟨k0, k1, k2, k3, k4, k5, k6, k7⟩ := glyph_cells H2.out.2.2.1
    go_wp2_with fail
    clear k0 k1 k2 k3 k4 k5 k6 k7
    go_loopw [24] (fun i wr => ∃ k : Nat, i = .int .i64 k ∧ k ≤ nc ∧ WB wr B b (l ++ lineC [k_glyph, num adv] ++ contoursC (cont.take k)) ∧ wr.heap[X]? = some (.cells #[ptr b] 91 (0, 0)) ∧ wr.heap[X + 1]? = some (.cells #[.slice a0 nc c0, .slice a1 0 c1, .int .i64 0, .int .i64 0, .int .i64 0, .int .i64 adv, .slice a6 0 c6, .slice a7 np c7] 47 (0, 0)) ∧ Glob wr ∧ Ext (Wr w1 B b) w1 wr) (fun i _ => nc - (intOf i).toNat)
    case atStart => exact ⟨0, rfl, Nat.zero_le _, by simpa [contoursC] using H2.out.1, H2.out.2⟩
    case round =>
      obtain ⟨k, rfl, hk, hW⟩ := hrel
      rename World => wr
      have HK := toHid hW
      clear hW
      by_cases hkn : k < nc
      · have hd : Rd A wr [.slice a0 nc c0] (.l 1 (cont.map contourD)) := (H0.out.1.ext0 H1.out.1).ext HK.out.2.2.2.2 (fun j hj => Wr.low hbl.1 (H0.out.2.2.1 j hj))
        obtain ⟨a', cap', hv, _, _, hll⟩ := hd.l_inv
        simp only [List.cons.injEq, Value.slice.injEq, and_true] at hv
        obtain ⟨rfl, hq, rfl⟩ := hv
        clear hq
        obtain ⟨bb, off, rfl, hb, hbl2, hat⟩ := hll (by rw [List.length_map, HNC.out]; omega)
        obtain ⟨c, hx⟩ : ∃ c, cont[k]? = some c := ⟨_, List.getElem?_eq_getElem (by rw [HNC.out]; exact hkn)⟩
        obtain ⟨us, hu1, hu2, hu3⟩ := hat k (contourD c) (by rw [List.getElem?_map, hx]; rfl)
        obtain ⟨au, cu, rfl, _⟩ := hu3.l_inv
        rw [List.length_map] at hu2 hu3
        have cc : wr.cell? ⟨bb, off + k, none⟩ = some (.slice au c.length cu) := by simpa using hu2 0 _ rfl
        have HX2 := toHid (show _ ∧ _ from ⟨hx, hu3⟩)
        have hlim : Hid ((l ++ lineC [k_glyph, num adv] ++ contoursC (cont.take k) ++ lineC (k_contour :: c.map ptText)).length ≤ 100000) := by
          have h1 := HL.out.1
          have h2 := contoursC_le cont (k + 1)
          rw [contoursC_succ hx] at h2
          unfold Hid
          simp only [glyphC, List.length_append] at h1 h2 ⊢
          omega
        obtain ⟨m, HM⟩ : ∃ m, Hid (c.length = m) := ⟨_, rfl⟩
        rw [HM.out] at cc HX2
        have hm : m ≤ 100000 := by
          have := lineC_count (k_contour :: c.map ptText)
          have h2 := hlim.out
          simp only [List.length_append, List.length_cons, List.length_map] at h2 this
          have := HM.out
          omega
        have s1 : (0 : Int) ≤ (k : Int) := by omega
        have s2 : (k : Int) < (nc : Int) := by omega
        clear hd hll hat hu2 hu3 hb hu1 hx hbl2
        go_upto_region 5 with fail
        have SK : Hid (∀ W, Ext Nope wr W → W.cell? ⟨X, 0, none⟩ = some (ptr b)) := fun W e => by
          rw [show (⟨X, 0, none⟩ : Addr) = at_ X 0 from rfl, cell_of_blk ((e.block _ (lt_of_heap HK.out.2.1) (fun z => z)).trans HK.out.2.1)]; rfl
        refine wp_region_inv 6 [28, 29, 30, 31, 32, 33] (fun W => Ext Nope wr W) (fun i v W => Is ([.v (ptr b), .d 1 (strsD [k_contour]), .d 1 (strsD [k_contour]), .v (.slice au m cu), .d m (strsD (c.map ptText)), .d 2 (.l 1 ([[k_contour], c.map ptText].map strsD))].getD i (.v undef)) v W) (by kernel_rfl) (by kernel_rfl) (by kernel_rfl) (by kernel_rfl) (Ext.refl _ _).drew ?step ?final
        case step =>
          intro i oi hi hoi y W hE hdep K hK
          have cx := SK.out W hE
          match i, hi, hoi with
          | 0, _, hoi =>
            obtain rfl := (Option.some.inj hoi).symm
            have hK := hK.out
            simp only [Fill, fillTmps, Act.put, List.setIfInBounds_toArray, List.set_cons_zero, List.set_cons_succ] at hK ⊢
            clear hdep
            replace hK := toHid hK
            go_simp
            exact hK.out _ _ hE (fun _ _ z => z) rfl
          | 1, _, hoi =>
            obtain rfl := (Option.some.inj hoi).symm
            have hK := hK.out
            simp only [Fill, fillTmps, Act.put, List.setIfInBounds_toArray, List.set_cons_zero, List.set_cons_succ] at hK ⊢
            clear hdep
            replace hK := toHid hK
            go_simp
            refine hK.out _ _ (hE.alloc _) (fun _ _ z => Is.ext z ((Ext.refl _ _).alloc _)) (Is.strB (l := [k_contour]) (heap_alloc_new W _) ?_ 1 rfl (by omega))
            intro s hs
            simp at hs
            subst hs
            decide
          | 2, _, hoi =>
            obtain rfl := (Option.some.inj hoi).symm
            have hd1 : Is (.d 1 (strsD [k_contour])) (y 1) W := hdep ⟨1, .data⟩ (by simp) rfl
            obtain ⟨ia1, ic1, hv1, hd1⟩ := hd1
            have hK := hK.out
            simp only [Fill, fillTmps, Act.put, List.setIfInBounds_toArray, List.set_cons_zero, List.set_cons_succ, hv1] at hK ⊢
            rw [hv1] at hd1
            clear hdep
            replace hK := toHid hK
            go_simp
            refine (parts_write _ _ _ _).mono ?_
            rintro e w2 ⟨rfl, rfl⟩
            try go_simp
            exact hK.out _ _ hE (fun _ _ z => z) ⟨_, _, rfl, hd1⟩
          | 3, _, hoi =>
            obtain rfl := (Option.some.inj hoi).symm
            have hK := hK.out
            simp only [Fill, fillTmps, Act.put, List.setIfInBounds_toArray, List.set_cons_zero, List.set_cons_succ] at hK ⊢
            clear hdep
            replace hK := toHid hK
            go_simp
            exact hK.out _ _ hE (fun _ _ z => z) rfl
          | 4, _, hoi =>
            obtain rfl := (Option.some.inj hoi).symm
            have hd3 : Is (.v (.slice au m cu)) (y 3) W := hdep ⟨3, .data⟩ (by simp) rfl
            have hd3 : y 3 = (.slice au m cu) := hd3
            have hK := hK.out
            simp only [Fill, fillTmps, Act.put, List.setIfInBounds_toArray, List.set_cons_zero, List.set_cons_succ, hd3] at hK ⊢
            clear hdep
            replace hK := toHid hK
            go_simp
            refine (writes_points ent_point (HX2.out.2.ext0 hE) (ss := c.map ptText) (by simp) (by rw [List.length_map, HM.out]; exact hm) (caps := #[]) (writes_point (HK.out.2.2.2.1.ext0 hE))).mono ?_
            rintro e w2 ⟨v2, rfl, o2, e2⟩
            try go_simp
            exact hK.out _ _ (ext0 hE e2) (fun _ _ z => Is.ext z e2) (Is.strs o2 (fun s hs => by have h1 := lineC_mem (List.mem_cons_of_mem k_contour hs); have h2 := hlim.out; rw [List.length_append] at h2; omega) m (by rw [List.length_map]; exact HM.out))
          | 5, _, hoi =>
            obtain rfl := (Option.some.inj hoi).symm
            have hd2 : Is (.d 1 (strsD [k_contour])) (y 2) W := hdep ⟨2, .data⟩ (by simp) rfl
            have hd4 : Is (.d m (strsD (c.map ptText))) (y 4) W := hdep ⟨4, .data⟩ (by simp) rfl
            obtain ⟨ia2, ic2, hv2, hd2⟩ := hd2
            obtain ⟨ia4, ic4, hv4, hd4⟩ := hd4
            have hK := hK.out
            simp only [Fill, fillTmps, Act.put, List.setIfInBounds_toArray, List.set_cons_zero, List.set_cons_succ, hv2, hv4] at hK ⊢
            rw [hv2] at hd2
            rw [hv4] at hd4
            clear hdep
            replace hK := toHid hK
            go_simp
            refine hK.out _ _ (hE.alloc _) (fun _ _ z => Is.ext z ((Ext.refl _ _).alloc _)) (Is.lists (ls := [[k_contour], c.map ptText]) (heap_alloc_new W _) 2 rfl (by omega) ?_)
            intro k l hk
            match k, hk with
            | 0, hk => cases hk; exact ⟨_, rfl, hd2.ext0 ((Ext.refl _ _).alloc _)⟩
            | 1, hk => cases hk; exact ⟨_, rfl, hd4.ext0 ((Ext.refl _ _).alloc _)⟩
          | i + 6, hi, _ => exact absurd hi (by omega)
        case final =>
          intro y W hE hR
          have hd0 : Is (.v (ptr b)) (y 0) W := hR 0 (by omega)
          have hd5 : Is (.d 2 (.l 1 ([[k_contour], c.map ptText].map strsD))) (y 5) W := hR 5 (by omega)
          have hd0 : y 0 = (ptr b) := hd0
          obtain ⟨ia5, ic5, hv5, hd5⟩ := hd5
          clear hR
          simp only [Fill, fillTmps, Act.put, List.setIfInBounds_toArray, List.set_cons_zero, List.set_cons_succ, hd0, hv5]
          rw [hv5] at hd5
          simp only [List.drop_succ_cons, List.drop_zero]
          go_wp2_with fail
          refine (line_ok (HK.out.1.ext0 hE) (Nat.le_trans H1.out.2.2.2.2.2 (by have := HX.out; have := hE.size; have := lt_of_heap HK.out.2.1; omega)) hd5 (by simp) (by simp) (by have := hlim.out; simpa using this)).mono ?_
          rintro e w2 ⟨rfl, b2, e2⟩
          have E2 : Ext (Wr wr B b) wr w2 := Wr.trans (hE.mono (fun _ z => z.elim)) e2
          obtain ⟨z1, z2⟩ := SB.out wr w2 HK.out.2.1 HK.out.2.2.1 E2
          have b2' : WB w2 B b (l ++ lineC [k_glyph, num adv] ++ contoursC (cont.take (k + 1))) := by
            rw [contoursC_succ HX2.out.1]
            simpa [List.append_assoc] using b2
          have G2 : Glob w2 := HK.out.2.2.2.1.ext E2 (fun k hk z => Wr.low hbl.1 (by omega) z)
          have H3 := toHid (show _ ∧ _ ∧ _ ∧ _ ∧ _ from ⟨b2', z1, z2, G2, Wr.trans HK.out.2.2.2.2 E2⟩)
          clear b2 b2' e2 z1 z2 hd5 hE SK E2 G2
          go_wp2
          go_roundw
          case rel => exact ⟨k + 1, by go_num, by omega, H3.out⟩
          case measure => simp [intOf]; omega
      · have hkk : k = nc := by omega
        subst hkk
        have hfull : Hid (contoursC (cont.take k) = contoursC cont) := by unfold Hid; rw [List.take_of_length_le (by rw [HNC.out]; exact Nat.le_refl _)]
        obtain ⟨k0, k1, k2, k3, k4, k5, k6, k7⟩ := glyph_cells HK.out.2.2.1
        have s2 : decide ((k : Int) < (k : Int)) = false := by simp
        go_wp2_with fail
        go_loopw [40] (fun i wx => i = .int .i64 0 ∧ wx = wr) (fun _ _ => 0)
        case atStart => exact ⟨rfl, rfl⟩
        case round =>
          obtain ⟨rfl, hw⟩ := hrel
          have hw := hw.symm
          subst hw
          go_wp2_with fail
          go_loopw [59] (fun i wx => i = .int .i64 0 ∧ wx = wr) (fun _ _ => 0)
          case atStart => exact ⟨rfl, rfl⟩
          case round =>
            obtain ⟨rfl, hw⟩ := hrel
            have hw := hw.symm
            subst hw
            by_cases hp0 : np = 0
            · have hpn : prog = [] := List.length_eq_zero_iff.1 (by rw [HNP.out]; exact hp0)
              subst hp0
              go_wp2_with fail
              go_end0
              have hb := HK.out.1
              rw [hfull.out] at hb
              refine ⟨rfl, ?_, Wr.trans (H1.out.1.mono (fun _ z => z.elim)) HK.out.2.2.2.2⟩
              have e : glyphC ⟨cont, [], ⟨0, 0, 0⟩, adv, [], prog⟩ = lineC [k_glyph, num adv] ++ contoursC cont := by simp [glyphC, progC, hpn]
              subst hpn
              simp only [glyphC, progC, if_true, List.append_nil]
              rw [← List.append_assoc]
              exact hb
            · have s3 : (0 : Int) < (np : Int) := by omega
              go_wp2_with fail
              refine (words_calls HK.out.2.2.2.1).mono ?_
              rintro e w3 ⟨rfl, hk3, e3⟩
              go_upto_region 22 with fail
              obtain ⟨kb, HKB⟩ : ∃ kb, Hid (wr.heap.size = kb) := ⟨_, rfl⟩
              rw [HKB.out] at hk3 ⊢
              have e4 : Ext Nope wr (w3.alloc (.cells #[.slice (some ⟨kb, 0, none⟩) 26 26] 59)) := ext0 e3 ((Ext.refl _ _).alloc _)
              have hb4 := heap_alloc_new w3 (.cells #[.slice (some ⟨kb, 0, none⟩) 26 26] 59)
              have hk4 := (((Ext.refl Nope w3).alloc (.cells #[.slice (some ⟨kb, 0, none⟩) 26 26] 59)).block _ (lt_of_heap hk3) (fun z => z)).trans hk3
              obtain ⟨ab, HAB⟩ : ∃ ab, Hid (w3.heap.size = ab) := ⟨_, rfl⟩
              rw [HAB.out] at hb4 ⊢
              generalize w3.alloc (.cells #[.slice (some ⟨kb, 0, none⟩) 26 26] 59) = w4 at *
              have H4 := toHid (show _ ∧ _ ∧ _ from ⟨e4, hb4, hk4⟩)
              clear e3 e4 hb4 hk4 hk3 k0 k1 k2 k3 k4 k5 k6 k7
              have HP := toHid (show Rd A w4 [.slice a7 np c7] (.l 2 (prog.map pairD)) from ((H0.out.2.1.ext0 H1.out.1).ext HK.out.2.2.2.2 (fun j hj => Wr.low hbl.1 (H0.out.2.2.1 j hj))).ext0 H4.out.1)
              have hpn : prog ≠ [] := fun h => hp0 (by rw [← HNP.out, h]; rfl)
              have hlim : Hid ((l ++ lineC [k_glyph, num adv] ++ contoursC cont ++ lineC (k_program :: prog.map insS)).length ≤ 100000) := by
                have h1 := HL.out.1
                unfold Hid
                simp only [glyphC, progC, List.length_append, if_neg hpn] at h1 ⊢
                omega
              have hmp : np ≤ 100000 := by
                have := lineC_count (k_program :: prog.map insS)
                have h2 := hlim.out
                simp only [List.length_append, List.length_cons, List.length_map] at h2 this
                have := HNP.out
                omega
              have SK : Hid (∀ W, Ext Nope w4 W → W.cell? ⟨X, 0, none⟩ = some (ptr b) ∧ W.cell? ⟨X + 1, 7, none⟩ = some (.slice a7 np c7)) := fun W e => by
                obtain ⟨z1, z2⟩ := SB.out wr W HK.out.2.1 HK.out.2.2.1 ((ext0 H4.out.1 e).mono (fun _ z => z.elim))
                obtain ⟨_, _, _, _, _, _, _, z7⟩ := glyph_cells z2
                exact ⟨by rw [show (⟨X, 0, none⟩ : Addr) = at_ X 0 from rfl, cell_of_blk z1]; rfl, z7⟩
              refine wp_region_inv 8 [83, 84, 85, 86, 87, 88, 89, 90] (fun W => Ext Nope w4 W) (fun i v W => Is ([.v (ptr b), .d 1 (strsD [k_program]), .d 1 (strsD [k_program]), .v (.pointer (some ⟨X + 1, 7, none⟩)), .v (.slice a7 np c7), .v (.func (.func 110) #[] #[ptr ab]), .d np (strsD (prog.map insS)), .d 2 (.l 1 ([[k_program], prog.map insS].map strsD))].getD i (.v undef)) v W) (by kernel_rfl) (by kernel_rfl) (by kernel_rfl) (by kernel_rfl) (Ext.refl _ _).drew ?step ?final
              case step =>
                intro i oi hi hoi y W hE hdep K hK
                obtain ⟨cx, cy⟩ := SK.out W hE
                match i, hi, hoi with
                | 0, _, hoi =>
                  obtain rfl := (Option.some.inj hoi).symm
                  have hK := hK.out
                  simp only [Fill, fillTmps, Act.put, List.setIfInBounds_toArray, List.set_cons_zero, List.set_cons_succ] at hK ⊢
                  clear hdep
                  replace hK := toHid hK
                  go_simp
                  exact hK.out _ _ hE (fun _ _ z => z) rfl
                | 1, _, hoi =>
                  obtain rfl := (Option.some.inj hoi).symm
                  have hK := hK.out
                  simp only [Fill, fillTmps, Act.put, List.setIfInBounds_toArray, List.set_cons_zero, List.set_cons_succ] at hK ⊢
                  clear hdep
                  replace hK := toHid hK
                  go_simp
                  refine hK.out _ _ (hE.alloc _) (fun _ _ z => Is.ext z ((Ext.refl _ _).alloc _)) (Is.strB (l := [k_program]) (heap_alloc_new W _) ?_ 1 rfl (by omega))
                  intro s hs
                  simp at hs
                  subst hs
                  decide
                | 2, _, hoi =>
                  obtain rfl := (Option.some.inj hoi).symm
                  have hd1 : Is (.d 1 (strsD [k_program])) (y 1) W := hdep ⟨1, .data⟩ (by simp) rfl
                  obtain ⟨ia1, ic1, hv1, hd1⟩ := hd1
                  have hK := hK.out
                  simp only [Fill, fillTmps, Act.put, List.setIfInBounds_toArray, List.set_cons_zero, List.set_cons_succ, hv1] at hK ⊢
                  rw [hv1] at hd1
                  clear hdep
                  replace hK := toHid hK
                  go_simp
                  refine (parts_write _ _ _ _).mono ?_
                  rintro e w2 ⟨rfl, rfl⟩
                  try go_simp
                  exact hK.out _ _ hE (fun _ _ z => z) ⟨_, _, rfl, hd1⟩
                | 3, _, hoi =>
                  obtain rfl := (Option.some.inj hoi).symm
                  have hK := hK.out
                  simp only [Fill, fillTmps, Act.put, List.setIfInBounds_toArray, List.set_cons_zero, List.set_cons_succ] at hK ⊢
                  clear hdep
                  replace hK := toHid hK
                  go_simp
                  exact hK.out _ _ hE (fun _ _ z => z) rfl
                | 4, _, hoi =>
                  obtain rfl := (Option.some.inj hoi).symm
                  have hd3 : Is (.v (.pointer (some ⟨X + 1, 7, none⟩))) (y 3) W := hdep ⟨3, .data⟩ (by simp) rfl
                  have hd3 : y 3 = (.pointer (some ⟨X + 1, 7, none⟩)) := hd3
                  have hK := hK.out
                  simp only [Fill, fillTmps, Act.put, List.setIfInBounds_toArray, List.set_cons_zero, List.set_cons_succ, hd3] at hK ⊢
                  clear hdep
                  replace hK := toHid hK
                  go_simp
                  exact hK.out _ _ hE (fun _ _ z => z) rfl
                | 5, _, hoi =>
                  obtain rfl := (Option.some.inj hoi).symm
                  have hK := hK.out
                  simp only [Fill, fillTmps, Act.put, List.setIfInBounds_toArray, List.set_cons_zero, List.set_cons_succ] at hK ⊢
                  clear hdep
                  replace hK := toHid hK
                  go_simp
                  exact hK.out _ _ hE (fun _ _ z => z) rfl
                | 6, _, hoi =>
                  obtain rfl := (Option.some.inj hoi).symm
                  have hd4 : Is (.v (.slice a7 np c7)) (y 4) W := hdep ⟨4, .data⟩ (by simp) rfl
                  have hd5 : Is (.v (.func (.func 110) #[] #[ptr ab])) (y 5) W := hdep ⟨5, .data⟩ (by simp) rfl
                  have hd4 : y 4 = (.slice a7 np c7) := hd4
                  have hd5 : y 5 = (.func (.func 110) #[] #[ptr ab]) := hd5
                  have hK := hK.out
                  simp only [Fill, fillTmps, Act.put, List.setIfInBounds_toArray, List.set_cons_zero, List.set_cons_succ, hd4, hd5] at hK ⊢
                  clear hdep
                  replace hK := toHid hK
                  go_simp
                  refine (writes_ins ent_insw (HP.out.ext0 hE) (ss := prog.map insS) (by simp) (by rw [List.length_map, HNP.out]; exact hmp) (caps := #[ptr ab]) (writes_insw ((HK.out.2.2.2.1.ext0 H4.out.1).ext0 hE) H0.out.2.2.2 ((hE.block _ (lt_of_heap H4.out.2.1) (fun z => z)).trans H4.out.2.1) ((hE.block _ (lt_of_heap H4.out.2.2) (fun z => z)).trans H4.out.2.2))).mono ?_
                  rintro e w2 ⟨v2, rfl, o2, e2⟩
                  try go_simp
                  exact hK.out _ _ (ext0 hE e2) (fun _ _ z => Is.ext z e2) (Is.strs o2 (fun s hs => by have h1 := lineC_mem (List.mem_cons_of_mem k_program hs); have h2 := hlim.out; rw [List.length_append] at h2; omega) np (by rw [List.length_map]; exact HNP.out))
                | 7, _, hoi =>
                  obtain rfl := (Option.some.inj hoi).symm
                  have hd2 : Is (.d 1 (strsD [k_program])) (y 2) W := hdep ⟨2, .data⟩ (by simp) rfl
                  have hd6 : Is (.d np (strsD (prog.map insS))) (y 6) W := hdep ⟨6, .data⟩ (by simp) rfl
                  obtain ⟨ia2, ic2, hv2, hd2⟩ := hd2
                  obtain ⟨ia6, ic6, hv6, hd6⟩ := hd6
                  have hK := hK.out
                  simp only [Fill, fillTmps, Act.put, List.setIfInBounds_toArray, List.set_cons_zero, List.set_cons_succ, hv2, hv6] at hK ⊢
                  rw [hv2] at hd2
                  rw [hv6] at hd6
                  clear hdep
                  replace hK := toHid hK
                  go_simp
                  refine hK.out _ _ (hE.alloc _) (fun _ _ z => Is.ext z ((Ext.refl _ _).alloc _)) (Is.lists (ls := [[k_program], prog.map insS]) (heap_alloc_new W _) 2 rfl (by omega) ?_)
                  intro k l hk
                  match k, hk with
                  | 0, hk => cases hk; exact ⟨_, rfl, hd2.ext0 ((Ext.refl _ _).alloc _)⟩
                  | 1, hk => cases hk; exact ⟨_, rfl, hd6.ext0 ((Ext.refl _ _).alloc _)⟩
                | i + 8, hi, _ => exact absurd hi (by omega)
              case final =>
                intro y W hE hR
                have hd0 : Is (.v (ptr b)) (y 0) W := hR 0 (by omega)
                have hd7 : Is (.d 2 (.l 1 ([[k_program], prog.map insS].map strsD))) (y 7) W := hR 7 (by omega)
                have hd0 : y 0 = (ptr b) := hd0
                obtain ⟨ia7, ic7, hv7, hd7⟩ := hd7
                clear hR
                simp only [Fill, fillTmps, Act.put, List.setIfInBounds_toArray, List.set_cons_zero, List.set_cons_succ, hd0, hv7]
                rw [hv7] at hd7
                simp only [List.drop_succ_cons, List.drop_zero]
                go_wp2_with fail
                have hb0 : WB W B b (l ++ lineC [k_glyph, num adv] ++ contoursC cont) := by have hb := (HK.out.1.ext0 H4.out.1).ext0 hE; rw [hfull.out] at hb; exact hb
                refine (line_ok hb0 (Nat.le_trans H1.out.2.2.2.2.2 (by have := HX.out; have := hE.size; have := H4.out.1.size; have := lt_of_heap HK.out.2.1; omega)) hd7 (by simp) (by simp) (by have := hlim.out; simpa using this)).mono ?_
                rintro e w2 ⟨rfl, b2, e2⟩
                have E2 : Ext (Wr wr B b) wr w2 := Wr.trans ((ext0 H4.out.1 hE).mono (fun _ z => z.elim)) e2
                have H5 := toHid (show _ ∧ _ from ⟨b2, Wr.trans HK.out.2.2.2.2 E2⟩)
                clear b2 e2 hd7 hE SK E2 hb0
                go_wp2_with fail
                go_end0
                refine ⟨rfl, ?_, Wr.trans (H1.out.1.mono (fun _ z => z.elim)) H5.out.2⟩
                have hb := H5.out.1
                simp only [glyphC, progC, if_neg hpn]
                simpa [List.append_assoc] using hb
end Go.Proofs.YtajebdpalnpjdaaGreatDoor
