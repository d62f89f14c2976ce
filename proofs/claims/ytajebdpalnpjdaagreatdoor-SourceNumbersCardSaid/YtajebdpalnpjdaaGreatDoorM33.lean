/-
  source.Text.
-/
import Derived.Test.YtajebdpalnpjdaaGreatDoorM32
namespace Go.Proofs.YtajebdpalnpjdaaGreatDoor
open Go.RowKit
attribute [local go_sem] alloc_drewN setCell_drewN

def ruleC (r : RuleA) : List UInt8 := lineC (ruleSS r).flatten
def headC (h : HeadA) : List UInt8 := lineC ([[k_lookup], [num h.feature]]).flatten
def rulesC (l : List RuleA) : List UInt8 := l.flatMap ruleC
def lookC (p : HeadA × LookupA) : List UInt8 := headC p.1 ++ rulesC p.2
def looksC (l : List (HeadA × LookupA)) : List UInt8 := l.flatMap lookC
def charC1 (c : CharA) : List UInt8 := lineC ([[k_char], [c.code, c.glyph, c.width].map num, []]).flatten
def charsC (l : List CharA) : List UInt8 := l.flatMap charC1
def glyphsC (l : List GlyphA) : List UInt8 := l.flatMap glyphC
/-- The text of a font without axes, regions, pairs and root. -/
def textC (F : FontA) : List UInt8 := lineC (fontSS F.core.name F.core.version).flatten ++ looksC (F.core.heads.zip F.lookups) ++ charsC F.core.chars ++ glyphsC F.glyphs
theorem flat_succ {α : Type} {f : α → List UInt8} {l : List α} {k : Nat} {x : α} (h : l[k]? = some x) : (l.take (k + 1)).flatMap f = (l.take k).flatMap f ++ f x := by
  have hk := (List.getElem?_eq_some_iff.1 h).1
  rw [List.take_succ_eq_append_getElem hk, (List.getElem?_eq_some_iff.1 h).2]
  simp
theorem flat_le {α : Type} (f : α → List UInt8) (l : List α) (k : Nat) : ((l.take k).flatMap f).length ≤ (l.flatMap f).length := by
  have : l.flatMap f = (l.take k).flatMap f ++ (l.drop k).flatMap f := by rw [← List.flatMap_append, List.take_append_drop]
  rw [this, List.length_append]
  omega
theorem lt_of_cell' {w : World} {b o : Nat} {v : Value} (h : w.cell? ⟨b, o, none⟩ = some v) : b < w.heap.size := World.block_lt_of_cell? _ _ h
theorem ent_grow : Enters 42 := enters_of Tryz.func42 (by kernel_rfl) rfl
/-- A font that is met. -/
structure FontM (F : FontA) : Prop where
  axes : F.core.axes = []
  regions : F.core.regions = []
  pairs : F.core.pairs = []
  root : F.core.root = ⟨#[]⟩
  name : F.core.name.size ≤ 1000
  heads : F.core.heads.length = F.lookups.length
  chars : ∀ c ∈ F.core.chars, c.wide = []
  glyphs : ∀ g ∈ F.glyphs, Plain g ∧ ∀ x ∈ g.program, InsM x
  rules : ∀ l ∈ F.lookups, ∀ r ∈ l, RuleM r
theorem wb_fresh (w : World) : WB (w.alloc (.cells #[.pointer none, .slice none 0 0] 96)) w.heap.size w.heap.size [] := Lib.fresh_isBuilder _ _ _
set_option maxRecDepth 100000 in
set_option maxHeartbeats 32000000 in
/-- source.Text -/
theorem text_calls {w : World} (G : Glob w) (h64 : 11 ≤ w.heap.size) {F : FontA} (hm : FontM F) {f : FV} {A0 : Nat → Prop} (hr0 : Rd A0 w f.cells (.r (fontL F)))
    (hchk : ∀ W, Ext Nope w W → Calls Tryz.prog 13 #[f.val] W fun e w' => e = .returned (.int .i64 0) ∧ Ext Nope W w') (hlen : (textC F).length ≤ 100000) :
    Calls Tryz.prog 14 #[f.val] w fun e w' => e = .returned (.tuple #[.string ⟨(textC F).toArray⟩, .int .i64 0]) ∧ Ext Nope w w' := by
  obtain ⟨A, HA⟩ : ∃ A : Nat → Prop, Hid (A = fun k => k < w.heap.size) := ⟨_, rfl⟩
  have hr : Rd A w f.cells (.r (fontL F)) := hr0.mono (fun k hk _ => by rw [HA.out]; exact hk)
  obtain ⟨⟨nm0, ver0, axes, regions, cnt0, chars, pairs, heads, root⟩, lookups, glyphs⟩ := F
  obtain ⟨nm, ver, ⟨a2, n2, k2⟩, ⟨a3, n3, k3⟩, cnt, ⟨a5, n5, k5⟩, ⟨a6, n6, k6⟩, ⟨a7, n7, k7⟩, rt', ⟨al, nl, cl⟩, ⟨ag, ng, cg⟩⟩ := f
  have hax : axes = [] := hm.axes
  have hrg : regions = [] := hm.regions
  have hpr : pairs = [] := hm.pairs
  have hrt : root = ⟨#[]⟩ := hm.root
  subst hax hrg hpr hrt
  have hr : Rd A w [.string nm, .int .i64 ver, .slice a2 n2 k2, .slice a3 n3 k3, .int .i64 cnt, .slice a5 n5 k5, .slice a6 n6 k6, .slice a7 n7 k7, .string rt', .slice al nl cl, .slice ag ng cg] (.r [.s nm0, .i ver0, .l 5 [], .l 1 [], .i cnt0, .l 4 (chars.map charD), .l 3 [], .l 2 (heads.map headD), .s ⟨#[]⟩, .l 1 (lookups.map lookupD), .l 8 (glyphs.map glyphD)]) := hr
  obtain ⟨_, hc, _, hr⟩ := hr.rs
  simp only [List.cons.injEq, Value.string.injEq] at hc
  obtain ⟨rfl, rfl⟩ := hc
  obtain ⟨_, hc, hver, hr⟩ := hr.ri
  simp only [List.cons.injEq, Value.int.injEq, true_and] at hc
  obtain ⟨rfl, rfl⟩ := hc
  obtain ⟨_, _, hc, h2, hr⟩ := hr.rl
  simp only [List.cons.injEq] at hc
  obtain ⟨rfl, rfl⟩ := hc
  obtain ⟨_, _, hc, h3, hr⟩ := hr.rl
  simp only [List.cons.injEq] at hc
  obtain ⟨rfl, rfl⟩ := hc
  obtain ⟨_, hc, hcnt, hr⟩ := hr.ri
  simp only [List.cons.injEq, Value.int.injEq, true_and] at hc
  obtain ⟨rfl, rfl⟩ := hc
  obtain ⟨_, _, hc, h5, hr⟩ := hr.rl
  simp only [List.cons.injEq] at hc
  obtain ⟨rfl, rfl⟩ := hc
  obtain ⟨_, _, hc, h6, hr⟩ := hr.rl
  simp only [List.cons.injEq] at hc
  obtain ⟨rfl, rfl⟩ := hc
  obtain ⟨_, _, hc, h7, hr⟩ := hr.rl
  simp only [List.cons.injEq] at hc
  obtain ⟨rfl, rfl⟩ := hc
  obtain ⟨_, hc, _, hr⟩ := hr.rs
  simp only [List.cons.injEq, Value.string.injEq] at hc
  obtain ⟨rfl, rfl⟩ := hc
  obtain ⟨_, _, hc, hL, hr⟩ := hr.rl
  simp only [List.cons.injEq] at hc
  obtain ⟨rfl, rfl⟩ := hc
  obtain ⟨_, _, hc, hG, hr⟩ := hr.rl
  simp only [List.cons.injEq] at hc
  obtain ⟨rfl, rfl⟩ := hc
  clear hr hr0
  obtain ⟨_, _, hv2, _⟩ := h2.len
  obtain ⟨_, _, hv3, _⟩ := h3.len
  obtain ⟨_, _, hv5, hb5⟩ := h5.len
  obtain ⟨_, _, hv6, _⟩ := h6.len
  obtain ⟨_, _, hv7, hb7⟩ := h7.len
  obtain ⟨_, _, hvL, hbL⟩ := hL.len
  obtain ⟨_, _, hvG, hbG⟩ := hG.len
  simp only [Value.slice.injEq, List.length_map, List.length_nil] at hv2 hv3 hv5 hv6 hv7 hvL hvG hb5 hb7 hbL hbG
  obtain ⟨hq1, rfl, hq2⟩ := hv2
  clear hq1 hq2
  obtain ⟨hq1, rfl, hq2⟩ := hv3
  clear hq1 hq2
  obtain ⟨hq1, rfl, hq2⟩ := hv6
  clear hq1 hq2
  obtain ⟨hq5, HN5, hk5⟩ := hv5
  obtain ⟨hq7, HN7, hk7⟩ := hv7
  obtain ⟨hqL, HNL, hkL⟩ := hvL
  obtain ⟨hqG, HNG, hkG⟩ := hvG
  have hhl : heads.length = lookups.length := hm.heads
  have hn7 : n7 = nl := by omega
  subst hn7
  have hbd : n7 ≤ 9223372036854775807 ∧ n5 ≤ 9223372036854775807 ∧ ng ≤ 9223372036854775807 := by omega
  clear hb5 hb7 hbL hbG hk5 hk7 hkL hkG hq5 hq7 hqL hqG
  have HN := toHid (show heads.length = n7 ∧ lookups.length = n7 ∧ chars.length = n5 ∧ glyphs.length = ng from ⟨HN7.symm, HNL.symm, HN5.symm, HNG.symm⟩)
  clear HN5 HN7 HNL HNG hhl
  have HD := toHid (show _ ∧ _ ∧ _ ∧ _ from ⟨h5, h7, hL, hG⟩)
  have HM := toHid hm
  have HL := toHid (show _ ∧ _ from ⟨hlen, hver⟩)
  have HCk := toHid hchk
  clear h2 h3 h5 h6 h7 hL hG hm hlen hver hcnt hchk
  have e1 : Ext Nope w (w.alloc (.cells #[.string nm, .int .i64 ver, .slice a2 0 k2, .slice a3 0 k3, .int .i64 cnt, .slice a5 n5 k5, .slice a6 0 k6, .slice a7 n7 k7, .string ⟨#[]⟩, .slice al n7 cl, .slice ag ng cg] 36)) := (Ext.refl _ _).alloc _
  have hz1 := heap_alloc_new w (.cells #[.string nm, .int .i64 ver, .slice a2 0 k2, .slice a3 0 k3, .int .i64 cnt, .slice a5 n5 k5, .slice a6 0 k6, .slice a7 n7 k7, .string ⟨#[]⟩, .slice al n7 cl, .slice ag ng cg] 36)
  have H1 := toHid (show _ ∧ _ ∧ _ from ⟨e1, hz1, G.ext0 e1⟩)
  clear e1 hz1 G
  change Calls Tryz.prog 14 #[.agg #[.string nm, .int .i64 ver, .slice a2 0 k2, .slice a3 0 k3, .int .i64 cnt, .slice a5 n5 k5, .slice a6 0 k6, .slice a7 n7 k7, .string ⟨#[]⟩, .slice al n7 cl, .slice ag ng cg]] w _
  change ∀ W, Ext Nope w W → Calls Tryz.prog 13 #[.agg #[.string nm, .int .i64 ver, .slice a2 0 k2, .slice a3 0 k3, .int .i64 cnt, .slice a5 n5 k5, .slice a6 0 k6, .slice a7 n7 k7, .string ⟨#[]⟩, .slice al n7 cl, .slice ag ng cg]] W _ at HCk
  replace HCk := toHid HCk
  go_enter Tryz.func14, Tryz.ntmps14
  go_upto_region 1 with fail
  obtain ⟨X, HX⟩ : ∃ X, Hid (w.heap.size = X) := ⟨_, rfl⟩
  rw [HX.out] at H1 ⊢
  generalize w.alloc (.cells #[.string nm, .int .i64 ver, .slice a2 0 k2, .slice a3 0 k3, .int .i64 cnt, .slice a5 n5 k5, .slice a6 0 k6, .slice a7 n7 k7, .string ⟨#[]⟩, .slice al n7 cl, .slice ag ng cg] 36) = w1 at *
  obtain ⟨c0, c1, c2, c3, c4, c5, c6, c7, c8, c9, c10⟩ := font_cells H1.out.2.1
  go_wp2_with fail
  refine (HCk.out _ H1.out.1).mono ?_
  rintro e w2 ⟨rfl, e2⟩
  have hz2 := (e2.block _ (lt_of_heap H1.out.2.1) (fun z => z)).trans H1.out.2.1
  have H2 := toHid (show _ ∧ _ ∧ _ from ⟨(ext0 H1.out.1 e2 : Ext Nope w w2), hz2, H1.out.2.2.ext0 e2⟩)
  clear e2 hz2 c0 c1 c2 c3 c4 c5 c6 c7 c8 c9 c10
  go_upto_region 5 with fail
  have hb3 := wb_fresh w2
  have e3 : Ext Nope w2 (w2.alloc (.cells #[.pointer none, .slice none 0 0] 96)) := (Ext.refl _ _).alloc _
  have hz3 := (e3.block _ (lt_of_heap H2.out.2.1) (fun z => z)).trans H2.out.2.1
  have hXB : X < w2.heap.size := lt_of_heap H2.out.2.1
  have hsz3 : (w2.alloc (.cells #[.pointer none, .slice none 0 0] 96)).heap.size = w2.heap.size + 1 := by simp
  obtain ⟨B, HB⟩ : ∃ B, Hid (w2.heap.size = B) := ⟨_, rfl⟩
  have H3 := toHid (show _ ∧ _ ∧ _ ∧ _ from ⟨(ext0 H2.out.1 e3 : Ext Nope w _), hz3, H2.out.2.2.ext0 e3, hb3⟩)
  have hB64 : 11 ≤ B := by have := HB.out; have := H2.out.1.size; omega
  rw [HB.out] at hsz3 hXB H3 ⊢
  generalize w2.alloc (.cells #[.pointer none, .slice none 0 0] 96) = w3 at *
  clear e3 hz3 hb3
  have hAB : Hid (∀ k, A k → k < B) := fun k hk => by
    rw [HA.out] at hk
    have hk : k < w.heap.size := hk
    have := HX.out
    omega
  -- what is kept while lines are written
  have KP : Hid (∀ W, Ext (Wr w3 B B) w3 W → W.heap[X]? = some (.cells #[.string nm, .int .i64 ver, .slice a2 0 k2, .slice a3 0 k3, .int .i64 cnt, .slice a5 n5 k5, .slice a6 0 k6, .slice a7 n7 k7, .string ⟨#[]⟩, .slice al n7 cl, .slice ag ng cg] 36 (0, 0)) ∧ Glob W ∧ B ≤ W.heap.size ∧ (∀ {cs : List Value} {d : Dat}, Rd A w cs d → Rd A W cs d) ∧ ∀ {b o : Nat} {v : Value}, A b → w.cell? ⟨b, o, none⟩ = some v → W.cell? ⟨b, o, none⟩ = some v) := fun W e =>
    ⟨(e.block _ (by omega) (Wr.low (Nat.le_refl B) hXB)).trans H3.out.2.1, H3.out.2.2.1.ext e (fun k hk z => Wr.low (Nat.le_refl B) (by omega) z), by have := e.size; omega, fun h => (h.ext0 H3.out.1).ext e (fun k hk => Wr.low (Nat.le_refl B) (hAB.out k hk)), fun {b o v} hb hc => by
      have hl := World.block_lt_of_cell? _ _ hc
      have h1 := H3.out.1.block b hl (fun z => z)
      have h2 := e.block b (Nat.lt_of_lt_of_le hl H3.out.1.size) (Wr.low (Nat.le_refl B) (hAB.out b hb))
      exact (World.cell?_of_block (w := w) (a := ⟨b, o, none⟩) (h2.trans h1)).trans hc⟩
  obtain ⟨c0, c1, c2, c3, c4, c5, c6, c7, c8, c9, c10⟩ := font_cells H3.out.2.1
  go_wp2_with fail
  refine (core_write H3.out.2.2.1 H3.out.2.2.2 (by omega) (by simp) HM.out.name HL.out.2).mono ?_
  rintro e w4 ⟨rfl, b4, e4⟩
  have H4 := toHid (show _ ∧ _ from ⟨b4, e4⟩)
  clear b4 e4 c0 c1 c2 c3 c4 c5 c6 c7 c8 c9 c10
  obtain ⟨c0, c1, c2, c3, c4, c5, c6, c7, c8, c9, c10⟩ := font_cells (KP.out _ H4.out.2).1
  go_wp2_with fail
  clear c0 c1 c2 c3 c4 c5 c6 c7 c8 c9 c10
  obtain ⟨fl, HFL⟩ : ∃ l, Hid (lineC (fontSS nm ver).flatten = l) := ⟨_, rfl⟩
  have H5 : Hid (WB w4 B B fl ∧ Ext (Wr w3 B B) w3 w4) := by
    have h := H4.out
    rw [HFL.out, List.nil_append] at h
    exact h
  have HLn : Hid ((fl ++ looksC (heads.zip lookups) ++ charsC chars ++ glyphsC glyphs).length ≤ 100000) := by
    have h := HL.out.1
    unfold textC at h
    rw [HFL.out] at h
    exact h
  clear H4
  go_loopw [31] (fun i wr => ∃ k : Nat, i = .int .i64 k ∧ k ≤ n7 ∧ WB wr B B (fl ++ looksC ((heads.zip lookups).take k)) ∧ Ext (Wr w3 B B) w3 wr) (fun i _ => n7 - (intOf i).toNat)
  case atStart => exact ⟨0, rfl, Nat.zero_le _, by simpa [looksC] using H5.out.1, H5.out.2⟩
  case round =>
    obtain ⟨k, rfl, hk, hW⟩ := hrel
    rename World => wr
    have HK := toHid hW
    clear hW
    by_cases hkn : k < n7
    · obtain ⟨lk, hlk⟩ : ∃ l, lookups[k]? = some l := ⟨_, List.getElem?_eq_getElem (by have := HN.out.2.1; omega)⟩
      obtain ⟨hd, hhd⟩ : ∃ h, heads[k]? = some h := ⟨_, List.getElem?_eq_getElem (by have := HN.out.1; omega)⟩
      have hzip : (heads.zip lookups)[k]? = some (hd, lk) := by rw [List.getElem?_zip_eq_some]; exact ⟨hhd, hlk⟩
      have KW := toHid (KP.out _ HK.out.2)
      have hdL := HD.out.2.2.1
      obtain ⟨a', cap', hv, _, _, hll⟩ := hdL.l_inv
      simp only [List.cons.injEq, Value.slice.injEq, and_true] at hv
      obtain ⟨rfl, hq, rfl⟩ := hv
      clear hq
      obtain ⟨bl, ol, rfl, hbA, hbl2, hat⟩ := hll (by rw [List.length_map, HN.out.2.1]; omega)
      obtain ⟨us, hu1, hu2, hu3⟩ := hat k (lookupD lk) (by rw [List.getElem?_map, hlk]; rfl)
      obtain ⟨u0, _, rfl, hu0, hur⟩ := Rd.rl hu3
      obtain rfl := hur.r_nil
      obtain ⟨au, cu, hvu, hcu, hcu2⟩ := hu0.len
      subst hvu
      rw [List.length_map] at hu2 hu0 hcu
      have cl0 : wr.cell? ⟨bl, ol + k, none⟩ = some (.slice au lk.length cu) := KW.out.2.2.2.2 hbA (by simpa using hu2 0 _ rfl)
      have hdH := HD.out.2.1
      obtain ⟨a', cap', hv, _, _, hll⟩ := hdH.l_inv
      simp only [List.cons.injEq, Value.slice.injEq, and_true] at hv
      obtain ⟨rfl, hq, rfl⟩ := hv
      clear hq
      obtain ⟨bh, oh, rfl, hbA2, hbh2, hat⟩ := hll (by rw [List.length_map, HN.out.1]; omega)
      obtain ⟨us, hu1, hu2, hu3⟩ := hat k (headD hd) (by rw [List.getElem?_map, hhd]; rfl)
      obtain ⟨_, rfl, hfe, hur⟩ := Rd.ri hu3
      have ch0 : wr.cell? ⟨bh, oh + k * 2, none⟩ = some (.int .i64 hd.feature) := KW.out.2.2.2.2 hbA2 (by simpa using hu2 0 _ rfl)
      have HX2 := toHid (show _ ∧ _ ∧ _ ∧ _ from ⟨hzip, hu0, hfe, List.mem_of_getElem? hlk⟩)
      obtain ⟨nr, HNR⟩ : ∃ n, Hid (lk.length = n) := ⟨_, rfl⟩
      rw [HNR.out] at cl0 hcu HX2
      have hnr : nr ≤ 9223372036854775807 := by omega
      have s1 : (0 : Int) ≤ (k : Int) := by omega
      have s2 : (k : Int) < (n7 : Int) := by omega
      have hbhs := lt_of_cell' ch0
      clear hdL hdH hll hat hu2 hu3 hu1 hur hhd hlk hzip hu0 hfe hbl2 hbh2 hcu hcu2
      go_upto_region 9 with fail
      have e5 : Ext Nope wr (wr.alloc (.cells #[.slice au nr cu] 66)) := (Ext.refl _ _).alloc _
      have hY := heap_alloc_new wr (.cells #[.slice au nr cu] 66)
      have hYB : B < wr.heap.size := by have := HK.out.2.size; have := hsz3; omega
      obtain ⟨Y, HY⟩ : ∃ Y, Hid (wr.heap.size = Y) := ⟨_, rfl⟩
      rw [HY.out] at hY hYB ⊢
      generalize wr.alloc (.cells #[.slice au nr cu] 66) = w5 at *
      have H6 := toHid (show _ ∧ _ from ⟨e5, hY⟩)
      have hlim : Hid ((fl ++ looksC ((heads.zip lookups).take k) ++ headC hd ++ rulesC lk).length ≤ 100000) := by
        have h1 := HLn.out
        have h2 := flat_le lookC (heads.zip lookups) (k + 1)
        rw [flat_succ HX2.out.1] at h2
        unfold Hid
        simp only [looksC, lookC, List.length_append] at h1 h2 ⊢
        omega
      clear e5 hY
      have SK : Hid (∀ W, Ext Nope w5 W → W.cell? ⟨X, 7, none⟩ = some (.slice (some ⟨bh, oh, none⟩) n7 k7) ∧ W.cell? ⟨bh, oh + k * 2, none⟩ = some (.int .i64 hd.feature)) := fun W e => by
        have eW : Ext (Wr w3 B B) w3 W := HK.out.2.trans (S := Wr w3 B B) ((ext0 H6.out.1 e).mono (fun _ z => z.elim) : Ext Nope wr W) (fun _ _ z => z.elim)
        obtain ⟨z0, z1, z2, z3, z4, z5, z6, z7, _⟩ := font_cells (KP.out _ eW).1
        exact ⟨z7, (World.cell?_of_block (w := wr) (a := ⟨bh, oh + k * 2, none⟩) ((ext0 H6.out.1 e).block _ hbhs (fun z => z))).trans ch0⟩
      refine wp_region_inv 13 [36, 37, 38, 39, 40, 41, 42, 43, 44, 45, 46, 47, 48] (fun W => Ext Nope w5 W) (fun i v W => Is ([.v (ptr B), .d 1 (strsD [k_lookup]), .d 1 (strsD [k_lookup]), .v (.pointer (some ⟨X, 0, none⟩)), .v (.pointer (some ⟨X, 7, none⟩)), .v (.slice (some ⟨bh, oh, none⟩) n7 k7), .v (.int .i64 k), .v (.pointer (some ⟨bh, oh + k * 2, none⟩)), .v (.pointer (some ⟨bh, oh + k * 2, none⟩)), .v (.int .i64 hd.feature), .d 1 (intsD [hd.feature]), .d 1 (strsD ([hd.feature].map num)), .d 2 (.l 1 (([[k_lookup], [num hd.feature]] : List (List ByteArray)).map strsD))].getD i (.v undef)) v W) (by kernel_rfl) (by kernel_rfl) (by kernel_rfl) (by kernel_rfl) (Ext.refl _ _).drew ?step ?final
      case step =>
        intro i oi hi hoi y W hE hdep K hK
        obtain ⟨x7, xh⟩ := SK.out W hE
        match i, hi, hoi with
        | 0, _, hoi =>
          obtain rfl := (Option.some.inj hoi).symm
          replace hK : ∀ v W', _ → _ → _ → K ((Fill _ _ y).put (some 36) v) W' := hK.out
          simp only [Fill, fillTmps, Act.put, List.setIfInBounds_toArray, List.set_cons_zero, List.set_cons_succ] at hK ⊢
          clear hdep
          replace hK := toHid hK
          go_simp
          exact hK.out _ _ hE (fun _ _ z => z) rfl
        | 1, _, hoi =>
          obtain rfl := (Option.some.inj hoi).symm
          replace hK : ∀ v W', _ → _ → _ → K ((Fill _ _ y).put (some 37) v) W' := hK.out
          simp only [Fill, fillTmps, Act.put, List.setIfInBounds_toArray, List.set_cons_zero, List.set_cons_succ] at hK ⊢
          clear hdep
          replace hK := toHid hK
          go_simp
          refine hK.out _ _ (hE.alloc _) (fun _ _ z => Is.ext z ((Ext.refl _ _).alloc _)) (Is.strB (l := [k_lookup]) (heap_alloc_new W _) ?_ 1 rfl (by omega))
          intro s hs
          simp at hs
          subst hs
          decide
        | 2, _, hoi =>
          obtain rfl := (Option.some.inj hoi).symm
          have hd1 : Is (.d 1 (strsD [k_lookup])) (y 1) W := hdep ⟨1, .data⟩ (by simp) rfl
          obtain ⟨ia1, ic1, hv1, hd1⟩ := hd1
          replace hK : ∀ v W', _ → _ → _ → K ((Fill _ _ y).put (some 38) v) W' := hK.out
          simp only [Fill, fillTmps, Act.put, List.setIfInBounds_toArray, List.set_cons_zero, List.set_cons_succ, hv1] at hK ⊢
          rw [hv1] at hd1
          clear hdep
          replace hK := toHid hK
          go_simp
          refine (parts_write _ _ _ _).mono ?_
          rintro e w2 ⟨rfl, rfl⟩
          try go_simp
          exact hK.out _ _ hE (fun _ _ z => z) ⟨_, _, rfl, hd1⟩
        | 3, _, hoi =>
          obtain rfl := (Option.some.inj hoi).symm
          replace hK : ∀ v W', _ → _ → _ → K ((Fill _ _ y).put (some 39) v) W' := hK.out
          simp only [Fill, fillTmps, Act.put, List.setIfInBounds_toArray, List.set_cons_zero, List.set_cons_succ] at hK ⊢
          clear hdep
          replace hK := toHid hK
          go_simp
          exact hK.out _ _ hE (fun _ _ z => z) rfl
        | 4, _, hoi =>
          obtain rfl := (Option.some.inj hoi).symm
          have hd3 : Is (.v (.pointer (some ⟨X, 0, none⟩))) (y 3) W := hdep ⟨3, .data⟩ (by simp) rfl
          have hd3 : y 3 = (.pointer (some ⟨X, 0, none⟩)) := hd3
          replace hK : ∀ v W', _ → _ → _ → K ((Fill _ _ y).put (some 40) v) W' := hK.out
          simp only [Fill, fillTmps, Act.put, List.setIfInBounds_toArray, List.set_cons_zero, List.set_cons_succ, hd3] at hK ⊢
          clear hdep
          replace hK := toHid hK
          go_simp
          exact hK.out _ _ hE (fun _ _ z => z) rfl
        | 5, _, hoi =>
          obtain rfl := (Option.some.inj hoi).symm
          have hd4 : Is (.v (.pointer (some ⟨X, 7, none⟩))) (y 4) W := hdep ⟨4, .data⟩ (by simp) rfl
          have hd4 : y 4 = (.pointer (some ⟨X, 7, none⟩)) := hd4
          replace hK : ∀ v W', _ → _ → _ → K ((Fill _ _ y).put (some 41) v) W' := hK.out
          simp only [Fill, fillTmps, Act.put, List.setIfInBounds_toArray, List.set_cons_zero, List.set_cons_succ, hd4] at hK ⊢
          clear hdep
          replace hK := toHid hK
          go_simp
          exact hK.out _ _ hE (fun _ _ z => z) rfl
        | 6, _, hoi =>
          obtain rfl := (Option.some.inj hoi).symm
          replace hK : ∀ v W', _ → _ → _ → K ((Fill _ _ y).put (some 42) v) W' := hK.out
          simp only [Fill, fillTmps, Act.put, List.setIfInBounds_toArray, List.set_cons_zero, List.set_cons_succ] at hK ⊢
          clear hdep
          replace hK := toHid hK
          go_simp
          exact hK.out _ _ hE (fun _ _ z => z) rfl
        | 7, _, hoi =>
          obtain rfl := (Option.some.inj hoi).symm
          have hd5 : Is (.v (.slice (some ⟨bh, oh, none⟩) n7 k7)) (y 5) W := hdep ⟨5, .data⟩ (by simp) rfl
          have hd6 : Is (.v (.int .i64 k)) (y 6) W := hdep ⟨6, .data⟩ (by simp) rfl
          have hd5 : y 5 = (.slice (some ⟨bh, oh, none⟩) n7 k7) := hd5
          have hd6 : y 6 = (.int .i64 k) := hd6
          replace hK : ∀ v W', _ → _ → _ → K ((Fill _ _ y).put (some 43) v) W' := hK.out
          simp only [Fill, fillTmps, Act.put, List.setIfInBounds_toArray, List.set_cons_zero, List.set_cons_succ, hd5, hd6] at hK ⊢
          clear hdep
          replace hK := toHid hK
          go_simp
          exact hK.out _ _ hE (fun _ _ z => z) rfl
        | 8, _, hoi =>
          obtain rfl := (Option.some.inj hoi).symm
          have hd7 : Is (.v (.pointer (some ⟨bh, oh + k * 2, none⟩))) (y 7) W := hdep ⟨7, .data⟩ (by simp) rfl
          have hd7 : y 7 = (.pointer (some ⟨bh, oh + k * 2, none⟩)) := hd7
          replace hK : ∀ v W', _ → _ → _ → K ((Fill _ _ y).put (some 44) v) W' := hK.out
          simp only [Fill, fillTmps, Act.put, List.setIfInBounds_toArray, List.set_cons_zero, List.set_cons_succ, hd7] at hK ⊢
          clear hdep
          replace hK := toHid hK
          go_simp
          exact hK.out _ _ hE (fun _ _ z => z) rfl
        | 9, _, hoi =>
          obtain rfl := (Option.some.inj hoi).symm
          have hd8 : Is (.v (.pointer (some ⟨bh, oh + k * 2, none⟩))) (y 8) W := hdep ⟨8, .data⟩ (by simp) rfl
          have hd8 : y 8 = (.pointer (some ⟨bh, oh + k * 2, none⟩)) := hd8
          replace hK : ∀ v W', _ → _ → _ → K ((Fill _ _ y).put (some 45) v) W' := hK.out
          simp only [Fill, fillTmps, Act.put, List.setIfInBounds_toArray, List.set_cons_zero, List.set_cons_succ, hd8] at hK ⊢
          clear hdep
          replace hK := toHid hK
          go_simp
          exact hK.out _ _ hE (fun _ _ z => z) rfl
        | 10, _, hoi =>
          obtain rfl := (Option.some.inj hoi).symm
          have hd9 : Is (.v (.int .i64 hd.feature)) (y 9) W := hdep ⟨9, .data⟩ (by simp) rfl
          have hd9 : y 9 = (.int .i64 hd.feature) := hd9
          replace hK : ∀ v W', _ → _ → _ → K ((Fill _ _ y).put (some 46) v) W' := hK.out
          simp only [Fill, fillTmps, Act.put, List.setIfInBounds_toArray, List.set_cons_zero, List.set_cons_succ, hd9] at hK ⊢
          clear hdep
          replace hK := toHid hK
          go_simp
          refine hK.out _ _ (hE.alloc _) (fun _ _ z => Is.ext z ((Ext.refl _ _).alloc _)) (Is.intB (l := [hd.feature]) (heap_alloc_new W _) ?_ 1 rfl (by omega))
          intro n hn
          simp at hn
          subst hn
          exact HX2.out.2.2.1
        | 11, _, hoi =>
          obtain rfl := (Option.some.inj hoi).symm
          have hd10 : Is (.d 1 (intsD [hd.feature])) (y 10) W := hdep ⟨10, .data⟩ (by simp) rfl
          obtain ⟨ia10, ic10, hv10, hd10⟩ := hd10
          replace hK : ∀ v W', _ → _ → _ → K ((Fill _ _ y).put (some 47) v) W' := hK.out
          simp only [Fill, fillTmps, Act.put, List.setIfInBounds_toArray, List.set_cons_zero, List.set_cons_succ, hv10] at hK ⊢
          rw [hv10] at hd10
          clear hdep
          replace hK := toHid hK
          go_simp
          refine (numbers_write ((KW.out.2.1.ext0 H6.out.1).ext0 hE) hd10 (fun n hn => by simp at hn; subst hn; exact HX2.out.2.2.1) (by simp)).mono ?_
          rintro e w2 ⟨v2, rfl, o2, e2⟩
          try go_simp
          exact hK.out _ _ (ext0 hE e2) (fun _ _ z => Is.ext z e2) (Is.strs o2 (fun s hs => by simp at hs; subst hs; exact num_1m HX2.out.2.2.1) 1 rfl)
        | 12, _, hoi =>
          obtain rfl := (Option.some.inj hoi).symm
          have hd2 : Is (.d 1 (strsD [k_lookup])) (y 2) W := hdep ⟨2, .data⟩ (by simp) rfl
          have hd11 : Is (.d 1 (strsD ([hd.feature].map num))) (y 11) W := hdep ⟨11, .data⟩ (by simp) rfl
          obtain ⟨ia2, ic2, hv2, hd2⟩ := hd2
          obtain ⟨ia11, ic11, hv11, hd11⟩ := hd11
          replace hK : ∀ v W', _ → _ → _ → K ((Fill _ _ y).put (some 48) v) W' := hK.out
          simp only [Fill, fillTmps, Act.put, List.setIfInBounds_toArray, List.set_cons_zero, List.set_cons_succ, hv2, hv11] at hK ⊢
          rw [hv2] at hd2
          rw [hv11] at hd11
          clear hdep
          replace hK := toHid hK
          go_simp
          refine hK.out _ _ (hE.alloc _) (fun _ _ z => Is.ext z ((Ext.refl _ _).alloc _)) (Is.lists (ls := [[k_lookup], [num hd.feature]]) (heap_alloc_new W _) 2 rfl (by omega) ?_)
          intro k l hk
          match k, hk with
          | 0, hk => cases hk; exact ⟨_, rfl, hd2.ext0 ((Ext.refl _ _).alloc _)⟩
          | 1, hk => cases hk; exact ⟨_, rfl, hd11.ext0 ((Ext.refl _ _).alloc _)⟩
        | i + 13, hi, _ => exact absurd hi (by omega)
      case final =>
        intro y W hE hR
        have hd0 : Is (.v (ptr B)) (y 0) W := hR 0 (by omega)
        have hd12 : Is (.d 2 (.l 1 (([[k_lookup], [num hd.feature]] : List (List ByteArray)).map strsD))) (y 12) W := hR 12 (by omega)
        have hd0 : y 0 = (ptr B) := hd0
        obtain ⟨ia12, ic12, hv12, hd12⟩ := hd12
        clear hR
        simp only [Fill, fillTmps, Act.put, List.setIfInBounds_toArray, List.set_cons_zero, List.set_cons_succ, hd0, hv12]
        rw [hv12] at hd12
        simp only [List.drop_succ_cons, List.drop_zero]
        go_wp2_with fail
        have eW : Ext (Wr w3 B B) w3 W := HK.out.2.trans (S := Wr w3 B B) ((ext0 H6.out.1 hE).mono (fun _ z => z.elim) : Ext Nope wr W) (fun _ _ z => z.elim)
        refine (line_ok ((HK.out.1.ext0 H6.out.1).ext0 hE) (KP.out _ eW).2.2.1 hd12 (by simp) (by simp) (by have := hlim.out; simp only [headC, List.length_append] at this ⊢; omega)).mono ?_
        rintro e w6 ⟨rfl, b6, e6⟩
        have E6 : Ext (Wr w3 B B) w3 w6 := Wr.trans eW e6
        have hY5 := (hE.block _ (lt_of_heap H6.out.2) (fun z => z)).trans H6.out.2
        have hY6 := (e6.block _ (lt_of_heap hY5) (Wr.other hY5 (by decide) (by omega))).trans hY5
        have cY : w6.cell? ⟨Y, 0, none⟩ = some (.slice au nr cu) := by rw [show (⟨Y, 0, none⟩ : Addr) = at_ Y 0 from rfl, cell_of_blk hY6]; rfl
        have H7 := toHid (show WB w6 B B (fl ++ looksC ((heads.zip lookups).take k) ++ headC hd) ∧ Ext (Wr w3 B B) w3 w6 from ⟨b6, E6⟩)
        clear b6 e6 E6 eW hd12 hE SK hY5 hY6
        go_wp2_with fail
        clear cY
        go_loopw [53] (fun i wx => ∃ j : Nat, i = .int .i64 j ∧ j ≤ nr ∧ WB wx B B (fl ++ looksC ((heads.zip lookups).take k) ++ headC hd ++ rulesC (lk.take j)) ∧ Ext (Wr w3 B B) w3 wx) (fun i _ => nr - (intOf i).toNat)
        case atStart => exact ⟨0, rfl, Nat.zero_le _, by simpa [rulesC] using H7.out.1, H7.out.2⟩
        case round =>
          obtain ⟨j, rfl, hj, hWx⟩ := hrel
          rename World => wx
          have HJ := toHid hWx
          clear hWx
          by_cases hjn : j < nr
          · obtain ⟨r, hr⟩ : ∃ r, lk[j]? = some r := ⟨_, List.getElem?_eq_getElem (by have := HNR.out; omega)⟩
            have KX := toHid (KP.out _ HJ.out.2)
            have hdR := HX2.out.2.1
            obtain ⟨a', cap', hv, _, _, hll⟩ := hdR.l_inv
            simp only [List.cons.injEq, Value.slice.injEq, and_true] at hv
            obtain ⟨rfl, hq, rfl⟩ := hv
            clear hq
            obtain ⟨br, or_, rfl, hbA3, hbr2, hat⟩ := hll (by rw [List.length_map, HNR.out]; omega)
            obtain ⟨us, hu1, hu2, hu3⟩ := hat j (ruleD r) (by rw [List.getElem?_map, hr]; rfl)
            have hone := hu3.one
            obtain ⟨u0, u1, u2, u3, u4, rfl⟩ : ∃ u0 u1 u2 u3 u4, us = [u0, u1, u2, u3, u4] := by
              match us, hu1 with
              | [u0, u1, u2, u3, u4], _ => exact ⟨u0, u1, u2, u3, u4, rfl⟩
            have cr0 : wx.cell? ⟨br, or_ + j * 5, none⟩ = some u0 := KX.out.2.2.2.2 hbA3 (by simpa using hu2 0 _ rfl)
            have cr1 : wx.cell? ⟨br, or_ + j * 5 + 1, none⟩ = some u1 := KX.out.2.2.2.2 hbA3 (by simpa using hu2 1 _ rfl)
            have cr2 : wx.cell? ⟨br, or_ + j * 5 + 2, none⟩ = some u2 := KX.out.2.2.2.2 hbA3 (by simpa using hu2 2 _ rfl)
            have cr3 : wx.cell? ⟨br, or_ + j * 5 + 3, none⟩ = some u3 := KX.out.2.2.2.2 hbA3 (by simpa using hu2 3 _ rfl)
            have cr4 : wx.cell? ⟨br, or_ + j * 5 + 4, none⟩ = some u4 := KX.out.2.2.2.2 hbA3 (by simpa using hu2 4 _ rfl)
            have o0 := store_one (P := Tryz.prog) (hone u0 (by simp))
            have o1 := store_one (P := Tryz.prog) (hone u1 (by simp))
            have o2 := store_one (P := Tryz.prog) (hone u2 (by simp))
            have o3 := store_one (P := Tryz.prog) (hone u3 (by simp))
            have o4 := store_one (P := Tryz.prog) (hone u4 (by simp))
            have HRL := toHid (show RuleM r from HM.out.rules lk HX2.out.2.2.2 r (List.mem_of_getElem? hr))
            have HRd := toHid (show _ ∧ _ from ⟨hu3, hr⟩)
            have t1 : (0 : Int) ≤ (j : Int) := by omega
            have t2 : (j : Int) < (nr : Int) := by omega
            clear hdR hll hat hu2 hu3 hu1 hr hbr2 hone
            go_wp2_with fail
            have ex : Ext Nope wx (wx.alloc (.cells #[u0, u1, u2, u3, u4] 81)) := (Ext.refl _ _).alloc _
            refine (rule_write (KX.out.2.1.ext0 ex) (HJ.out.1.ext0 ex) (Nat.le_trans KX.out.2.2.1 ex.size) HRL.out (cs := [u0, u1, u2, u3, u4]) ((KX.out.2.2.2.1 HRd.out.1).ext0 ex) hAB.out hB64 ?_).mono ?_
            · have h1 := hlim.out
              have h2 := flat_le ruleC lk (j + 1)
              rw [flat_succ HRd.out.2] at h2
              simp only [rulesC, ruleC, List.length_append] at h1 h2 ⊢
              omega
            · rintro e w8 ⟨rfl, b8, e8⟩
              have H8 : Hid (WB w8 B B (fl ++ looksC ((heads.zip lookups).take k) ++ headC hd ++ rulesC (lk.take (j + 1))) ∧ Ext (Wr w3 B B) w3 w8) := by
                refine ⟨?_, Wr.trans (HJ.out.2.trans (S := Wr w3 B B) (ex.mono (fun _ z => z.elim) : Ext Nope wx _) (fun _ _ z => z.elim)) e8⟩
                unfold rulesC
                rw [flat_succ HRd.out.2]
                rw [← List.append_assoc]
                exact b8
              clear b8 e8 ex cr0 cr1 cr2 cr3 cr4 o0 o1 o2 o3 o4
              go_wp2
              go_roundw
              case rel => exact ⟨j + 1, by go_num, by omega, H8.out⟩
              case measure => simp [intOf]; omega
          · have hjj : j = nr := by omega
            subst hjj
            have s3 : decide ((j : Int) < (j : Int)) = false := by simp
            have H8 : Hid (WB wx B B (fl ++ looksC ((heads.zip lookups).take (k + 1))) ∧ Ext (Wr w3 B B) w3 wx) := by
              refine ⟨?_, HJ.out.2⟩
              have h := HJ.out.1
              rw [show lk.take j = lk from List.take_of_length_le (by rw [HNR.out]; exact Nat.le_refl _)] at h
              unfold looksC
              rw [flat_succ HX2.out.1]
              have e : lookC (hd, lk) = headC hd ++ rulesC lk := rfl
              rw [e, ← List.append_assoc, ← List.append_assoc]
              exact h
            go_wp2
            go_roundw
            case rel => exact ⟨k + 1, by go_num, by omega, H8.out⟩
            case measure => simp [intOf]; omega
    · have hkk : k = n7 := by omega
      subst hkk
      have s2 : decide ((k : Int) < (k : Int)) = false := by simp
      have HB2 : Hid (WB wr B B (fl ++ looksC (heads.zip lookups)) ∧ Ext (Wr w3 B B) w3 wr) := by
        have h := HK.out
        rw [List.take_of_length_le (by rw [List.length_zip]; have := HN.out; omega)] at h
        exact h
      obtain ⟨c0, c1, c2, c3, c4, c5, c6, c7, c8, c9, c10⟩ := font_cells (KP.out _ HB2.out.2).1
      obtain ⟨f2, HF2⟩ : ∃ l, Hid (fl ++ looksC (heads.zip lookups) = l) := ⟨_, rfl⟩
      rw [HF2.out] at HB2 HLn
      clear HK
      go_wp2_with fail
      clear c0 c1 c2 c3 c4 c5 c6 c7 c8 c9 c10 s2
      go_loopw [66] (fun i wq => ∃ q : Nat, i = .int .i64 q ∧ q ≤ n5 ∧ WB wq B B (f2 ++ charsC (chars.take q)) ∧ Ext (Wr w3 B B) w3 wq) (fun i _ => n5 - (intOf i).toNat)
      case atStart => exact ⟨0, rfl, Nat.zero_le _, by simpa [charsC] using HB2.out.1, HB2.out.2⟩
      case round =>
        obtain ⟨q, rfl, hq5, hWq⟩ := hrel
        rename World => wq
        have HQ := toHid hWq
        clear hWq
        by_cases hqn : q < n5
        · obtain ⟨c, hc⟩ : ∃ c, chars[q]? = some c := ⟨_, List.getElem?_eq_getElem (by have := HN.out.2.2.1; omega)⟩
          have KX := toHid (KP.out _ HQ.out.2)
          have hdC := HD.out.1
          obtain ⟨a', cap', hv, _, _, hll⟩ := hdC.l_inv
          simp only [List.cons.injEq, Value.slice.injEq, and_true] at hv
          obtain ⟨rfl, hq, rfl⟩ := hv
          clear hq
          obtain ⟨br, or_, rfl, hbA3, hbr2, hat⟩ := hll (by rw [List.length_map, HN.out.2.2.1]; omega)
          obtain ⟨us, hu1, hu2, hu3⟩ := hat q (charD c) (by rw [List.getElem?_map, hc]; rfl)
          obtain ⟨_, rfl, hi0, hu3⟩ := hu3.ri
          obtain ⟨_, rfl, hi1, hu3⟩ := hu3.ri
          obtain ⟨_, rfl, hi2, hu3⟩ := hu3.ri
          obtain ⟨uw, _, rfl, huw, hu3⟩ := hu3.rl
          obtain rfl := hu3.r_nil
          rw [HM.out.chars c (List.mem_of_getElem? hc)] at huw
          obtain ⟨aw, cw, hvw, _⟩ := huw.len
          have hvw : uw = .slice aw 0 cw := hvw
          subst hvw
          have cr0 : wq.cell? ⟨br, or_ + q * 4, none⟩ = some (.int .i64 c.code) := KX.out.2.2.2.2 hbA3 (by simpa using hu2 0 _ rfl)
          have cr1 : wq.cell? ⟨br, or_ + q * 4 + 1, none⟩ = some (.int .i64 c.glyph) := KX.out.2.2.2.2 hbA3 (by simpa using hu2 1 _ rfl)
          have cr2 : wq.cell? ⟨br, or_ + q * 4 + 2, none⟩ = some (.int .i64 c.width) := KX.out.2.2.2.2 hbA3 (by simpa using hu2 2 _ rfl)
          have cr3 : wq.cell? ⟨br, or_ + q * 4 + 3, none⟩ = some (.slice aw 0 cw) := KX.out.2.2.2.2 hbA3 (by simpa using hu2 3 _ rfl)
          have HRd := toHid (show _ ∧ _ ∧ _ ∧ _ ∧ _ from ⟨hc, huw, hi0, hi1, hi2⟩)
          have t1 : (0 : Int) ≤ (q : Int) := by omega
          have t2 : (q : Int) < (n5 : Int) := by omega
          clear hdC hll hat hu2 hu3 hu1 hc hbr2 huw hi0 hi1 hi2
          go_upto_region 19 with fail
          have e5 : Ext Nope wq (wq.alloc (.cells #[.int .i64 c.code, .int .i64 c.glyph, .int .i64 c.width, .slice aw 0 cw] 104)) := (Ext.refl _ _).alloc _
          have hY := heap_alloc_new wq (.cells #[.int .i64 c.code, .int .i64 c.glyph, .int .i64 c.width, .slice aw 0 cw] 104)
          have hYB : B < wq.heap.size := by have := HQ.out.2.size; have := hsz3; omega
          obtain ⟨Y, HY⟩ : ∃ Y, Hid (wq.heap.size = Y) := ⟨_, rfl⟩
          rw [HY.out] at hY hYB ⊢
          generalize wq.alloc (.cells #[.int .i64 c.code, .int .i64 c.glyph, .int .i64 c.width, .slice aw 0 cw] 104) = w5 at *
          have H6 := toHid (show _ ∧ _ from ⟨e5, hY⟩)
          have hlim : Hid ((f2 ++ charsC (chars.take q) ++ charC1 c).length ≤ 100000) := by
            have h1 := HLn.out
            have h2 := flat_le charC1 chars (q + 1)
            rw [flat_succ HRd.out.1] at h2
            unfold Hid
            simp only [charsC, List.length_append] at h1 h2 ⊢
            omega
          clear e5 hY
          have SK : Hid (∀ W, Ext Nope w5 W → W.cell? ⟨Y, 0, none⟩ = some (.int .i64 c.code) ∧ W.cell? ⟨Y, 1, none⟩ = some (.int .i64 c.glyph) ∧ W.cell? ⟨Y, 2, none⟩ = some (.int .i64 c.width) ∧ W.cell? ⟨Y, 3, none⟩ = some (.slice aw 0 cw)) := fun W e => by
            have hh := (e.block _ (lt_of_heap H6.out.2) (fun z => z)).trans H6.out.2
            refine ⟨?_, ?_, ?_, ?_⟩ <;> (rw [show ∀ j, (⟨Y, j, none⟩ : Addr) = at_ Y j from fun _ => rfl, cell_of_blk hh]; rfl)
          have hi3 : Hid (∀ n ∈ [c.code, c.glyph, c.width], i64 n) := fun n hn => by
            simp only [List.mem_cons, List.not_mem_nil, or_false] at hn
            rcases hn with rfl | rfl | rfl
            · exact HRd.out.2.2.1
            · exact HRd.out.2.2.2.1
            · exact HRd.out.2.2.2.2
          refine wp_region_inv 15 [70, 71, 72, 73, 74, 75, 76, 77, 78, 79, 80, 81, 82, 83, 84] (fun W => Ext Nope w5 W) (fun i v W => Is ([.v (ptr B), .d 1 (strsD [k_char]), .d 1 (strsD [k_char]), .v (.pointer (some ⟨Y, 0, none⟩)), .v (.int .i64 c.code), .v (.pointer (some ⟨Y, 1, none⟩)), .v (.int .i64 c.glyph), .v (.pointer (some ⟨Y, 2, none⟩)), .v (.int .i64 c.width), .d 3 (intsD [c.code, c.glyph, c.width]), .d 3 (strsD ([c.code, c.glyph, c.width].map num)), .v (.pointer (some ⟨Y, 3, none⟩)), .v (.slice aw 0 cw), .d 0 (strsD []), .d 3 (.l 1 (([[k_char], [c.code, c.glyph, c.width].map num, []] : List (List ByteArray)).map strsD))].getD i (.v undef)) v W) (by kernel_rfl) (by kernel_rfl) (by kernel_rfl) (by kernel_rfl) (Ext.refl _ _).drew ?step ?final
          case step =>
            intro i oi hi hoi y W hE hdep K hK
            obtain ⟨y0, y1, y2, y3⟩ := SK.out W hE
            match i, hi, hoi with
            | 0, _, hoi =>
              obtain rfl := (Option.some.inj hoi).symm
              replace hK : ∀ v W', _ → _ → _ → K ((Fill _ _ y).put (some 70) v) W' := hK.out
              simp only [Fill, fillTmps, Act.put, List.setIfInBounds_toArray, List.set_cons_zero, List.set_cons_succ] at hK ⊢
              clear hdep
              replace hK := toHid hK
              go_simp
              exact hK.out _ _ hE (fun _ _ z => z) rfl
            | 1, _, hoi =>
              obtain rfl := (Option.some.inj hoi).symm
              replace hK : ∀ v W', _ → _ → _ → K ((Fill _ _ y).put (some 71) v) W' := hK.out
              simp only [Fill, fillTmps, Act.put, List.setIfInBounds_toArray, List.set_cons_zero, List.set_cons_succ] at hK ⊢
              clear hdep
              replace hK := toHid hK
              go_simp
              refine hK.out _ _ (hE.alloc _) (fun _ _ z => Is.ext z ((Ext.refl _ _).alloc _)) (Is.strB (l := [k_char]) (heap_alloc_new W _) ?_ 1 rfl (by omega))
              intro s hs
              simp at hs
              subst hs
              decide
            | 2, _, hoi =>
              obtain rfl := (Option.some.inj hoi).symm
              have hd1 : Is (.d 1 (strsD [k_char])) (y 1) W := hdep ⟨1, .data⟩ (by simp) rfl
              obtain ⟨ia1, ic1, hv1, hd1⟩ := hd1
              replace hK : ∀ v W', _ → _ → _ → K ((Fill _ _ y).put (some 72) v) W' := hK.out
              simp only [Fill, fillTmps, Act.put, List.setIfInBounds_toArray, List.set_cons_zero, List.set_cons_succ, hv1] at hK ⊢
              rw [hv1] at hd1
              clear hdep
              replace hK := toHid hK
              go_simp
              refine (parts_write _ _ _ _).mono ?_
              rintro e w2 ⟨rfl, rfl⟩
              try go_simp
              exact hK.out _ _ hE (fun _ _ z => z) ⟨_, _, rfl, hd1⟩
            | 3, _, hoi =>
              obtain rfl := (Option.some.inj hoi).symm
              replace hK : ∀ v W', _ → _ → _ → K ((Fill _ _ y).put (some 73) v) W' := hK.out
              simp only [Fill, fillTmps, Act.put, List.setIfInBounds_toArray, List.set_cons_zero, List.set_cons_succ] at hK ⊢
              clear hdep
              replace hK := toHid hK
              go_simp
              exact hK.out _ _ hE (fun _ _ z => z) rfl
            | 4, _, hoi =>
              obtain rfl := (Option.some.inj hoi).symm
              have hd3 : Is (.v (.pointer (some ⟨Y, 0, none⟩))) (y 3) W := hdep ⟨3, .data⟩ (by simp) rfl
              have hd3 : y 3 = (.pointer (some ⟨Y, 0, none⟩)) := hd3
              replace hK : ∀ v W', _ → _ → _ → K ((Fill _ _ y).put (some 74) v) W' := hK.out
              simp only [Fill, fillTmps, Act.put, List.setIfInBounds_toArray, List.set_cons_zero, List.set_cons_succ, hd3] at hK ⊢
              clear hdep
              replace hK := toHid hK
              go_simp
              exact hK.out _ _ hE (fun _ _ z => z) rfl
            | 5, _, hoi =>
              obtain rfl := (Option.some.inj hoi).symm
              replace hK : ∀ v W', _ → _ → _ → K ((Fill _ _ y).put (some 75) v) W' := hK.out
              simp only [Fill, fillTmps, Act.put, List.setIfInBounds_toArray, List.set_cons_zero, List.set_cons_succ] at hK ⊢
              clear hdep
              replace hK := toHid hK
              go_simp
              exact hK.out _ _ hE (fun _ _ z => z) rfl
            | 6, _, hoi =>
              obtain rfl := (Option.some.inj hoi).symm
              have hd5 : Is (.v (.pointer (some ⟨Y, 1, none⟩))) (y 5) W := hdep ⟨5, .data⟩ (by simp) rfl
              have hd5 : y 5 = (.pointer (some ⟨Y, 1, none⟩)) := hd5
              replace hK : ∀ v W', _ → _ → _ → K ((Fill _ _ y).put (some 76) v) W' := hK.out
              simp only [Fill, fillTmps, Act.put, List.setIfInBounds_toArray, List.set_cons_zero, List.set_cons_succ, hd5] at hK ⊢
              clear hdep
              replace hK := toHid hK
              go_simp
              exact hK.out _ _ hE (fun _ _ z => z) rfl
            | 7, _, hoi =>
              obtain rfl := (Option.some.inj hoi).symm
              replace hK : ∀ v W', _ → _ → _ → K ((Fill _ _ y).put (some 77) v) W' := hK.out
              simp only [Fill, fillTmps, Act.put, List.setIfInBounds_toArray, List.set_cons_zero, List.set_cons_succ] at hK ⊢
              clear hdep
              replace hK := toHid hK
              go_simp
              exact hK.out _ _ hE (fun _ _ z => z) rfl
            | 8, _, hoi =>
              obtain rfl := (Option.some.inj hoi).symm
              have hd7 : Is (.v (.pointer (some ⟨Y, 2, none⟩))) (y 7) W := hdep ⟨7, .data⟩ (by simp) rfl
              have hd7 : y 7 = (.pointer (some ⟨Y, 2, none⟩)) := hd7
              replace hK : ∀ v W', _ → _ → _ → K ((Fill _ _ y).put (some 78) v) W' := hK.out
              simp only [Fill, fillTmps, Act.put, List.setIfInBounds_toArray, List.set_cons_zero, List.set_cons_succ, hd7] at hK ⊢
              clear hdep
              replace hK := toHid hK
              go_simp
              exact hK.out _ _ hE (fun _ _ z => z) rfl
            | 9, _, hoi =>
              obtain rfl := (Option.some.inj hoi).symm
              have hd4 : Is (.v (.int .i64 c.code)) (y 4) W := hdep ⟨4, .data⟩ (by simp) rfl
              have hd6 : Is (.v (.int .i64 c.glyph)) (y 6) W := hdep ⟨6, .data⟩ (by simp) rfl
              have hd8 : Is (.v (.int .i64 c.width)) (y 8) W := hdep ⟨8, .data⟩ (by simp) rfl
              have hd4 : y 4 = (.int .i64 c.code) := hd4
              have hd6 : y 6 = (.int .i64 c.glyph) := hd6
              have hd8 : y 8 = (.int .i64 c.width) := hd8
              replace hK : ∀ v W', _ → _ → _ → K ((Fill _ _ y).put (some 79) v) W' := hK.out
              simp only [Fill, fillTmps, Act.put, List.setIfInBounds_toArray, List.set_cons_zero, List.set_cons_succ, hd4, hd6, hd8] at hK ⊢
              clear hdep
              replace hK := toHid hK
              go_simp
              exact hK.out _ _ (hE.alloc _) (fun _ _ z => Is.ext z ((Ext.refl _ _).alloc _)) (Is.intB (l := [c.code, c.glyph, c.width]) (heap_alloc_new W _) hi3.out 3 rfl (by omega))
            | 10, _, hoi =>
              obtain rfl := (Option.some.inj hoi).symm
              have hd9 : Is (.d 3 (intsD [c.code, c.glyph, c.width])) (y 9) W := hdep ⟨9, .data⟩ (by simp) rfl
              obtain ⟨ia9, ic9, hv9, hd9⟩ := hd9
              replace hK : ∀ v W', _ → _ → _ → K ((Fill _ _ y).put (some 80) v) W' := hK.out
              simp only [Fill, fillTmps, Act.put, List.setIfInBounds_toArray, List.set_cons_zero, List.set_cons_succ, hv9] at hK ⊢
              rw [hv9] at hd9
              clear hdep
              replace hK := toHid hK
              go_simp
              refine (numbers_write ((KX.out.2.1.ext0 H6.out.1).ext0 hE) hd9 hi3.out (by simp)).mono ?_
              rintro e w2 ⟨v2, rfl, o2, e2⟩
              try go_simp
              exact hK.out _ _ (ext0 hE e2) (fun _ _ z => Is.ext z e2) (Is.strs o2 (fun s hs => by obtain ⟨n, hn, rfl⟩ := List.mem_map.1 hs; exact num_1m (hi3.out n hn)) 3 rfl)
            | 11, _, hoi =>
              obtain rfl := (Option.some.inj hoi).symm
              replace hK : ∀ v W', _ → _ → _ → K ((Fill _ _ y).put (some 81) v) W' := hK.out
              simp only [Fill, fillTmps, Act.put, List.setIfInBounds_toArray, List.set_cons_zero, List.set_cons_succ] at hK ⊢
              clear hdep
              replace hK := toHid hK
              go_simp
              exact hK.out _ _ hE (fun _ _ z => z) rfl
            | 12, _, hoi =>
              obtain rfl := (Option.some.inj hoi).symm
              have hd11 : Is (.v (.pointer (some ⟨Y, 3, none⟩))) (y 11) W := hdep ⟨11, .data⟩ (by simp) rfl
              have hd11 : y 11 = (.pointer (some ⟨Y, 3, none⟩)) := hd11
              replace hK : ∀ v W', _ → _ → _ → K ((Fill _ _ y).put (some 82) v) W' := hK.out
              simp only [Fill, fillTmps, Act.put, List.setIfInBounds_toArray, List.set_cons_zero, List.set_cons_succ, hd11] at hK ⊢
              clear hdep
              replace hK := toHid hK
              go_simp
              exact hK.out _ _ hE (fun _ _ z => z) rfl
            | 13, _, hoi =>
              obtain rfl := (Option.some.inj hoi).symm
              have hd12 : Is (.v (.slice aw 0 cw)) (y 12) W := hdep ⟨12, .data⟩ (by simp) rfl
              have hd12 : y 12 = (.slice aw 0 cw) := hd12
              replace hK : ∀ v W', _ → _ → _ → K ((Fill _ _ y).put (some 83) v) W' := hK.out
              simp only [Fill, fillTmps, Act.put, List.setIfInBounds_toArray, List.set_cons_zero, List.set_cons_succ, hd12] at hK ⊢
              clear hdep
              replace hK := toHid hK
              go_simp
              refine (writes_grows ent_grow (((KX.out.2.2.2.1 HRd.out.2.1).ext0 H6.out.1).ext0 hE) (ss := []) rfl (by simp) (caps := #[]) (fun _ _ _ s hs => by simp at hs)).mono ?_
              rintro e w2 ⟨v2, rfl, o2, e2⟩
              try go_simp
              exact hK.out _ _ (ext0 hE e2) (fun _ _ z => Is.ext z e2) (Is.strs o2 (fun s hs => by simp at hs) 0 rfl)
            | 14, _, hoi =>
              obtain rfl := (Option.some.inj hoi).symm
              have hd2 : Is (.d 1 (strsD [k_char])) (y 2) W := hdep ⟨2, .data⟩ (by simp) rfl
              have hd10 : Is (.d 3 (strsD ([c.code, c.glyph, c.width].map num))) (y 10) W := hdep ⟨10, .data⟩ (by simp) rfl
              have hd13 : Is (.d 0 (strsD [])) (y 13) W := hdep ⟨13, .data⟩ (by simp) rfl
              obtain ⟨ia2, ic2, hv2, hd2⟩ := hd2
              obtain ⟨ia10, ic10, hv10, hd10⟩ := hd10
              obtain ⟨ia13, ic13, hv13, hd13⟩ := hd13
              replace hK : ∀ v W', _ → _ → _ → K ((Fill _ _ y).put (some 84) v) W' := hK.out
              simp only [Fill, fillTmps, Act.put, List.setIfInBounds_toArray, List.set_cons_zero, List.set_cons_succ, hv2, hv10, hv13] at hK ⊢
              rw [hv2] at hd2
              rw [hv10] at hd10
              rw [hv13] at hd13
              clear hdep
              replace hK := toHid hK
              go_simp
              refine hK.out _ _ (hE.alloc _) (fun _ _ z => Is.ext z ((Ext.refl _ _).alloc _)) (Is.lists (ls := [[k_char], [c.code, c.glyph, c.width].map num, []]) (heap_alloc_new W _) 3 rfl (by omega) ?_)
              intro k l hk
              match k, hk with
              | 0, hk => cases hk; exact ⟨_, rfl, hd2.ext0 ((Ext.refl _ _).alloc _)⟩
              | 1, hk => cases hk; exact ⟨_, rfl, hd10.ext0 ((Ext.refl _ _).alloc _)⟩
              | 2, hk => cases hk; exact ⟨_, rfl, hd13.ext0 ((Ext.refl _ _).alloc _)⟩
            | i + 15, hi, _ => exact absurd hi (by omega)
          case final =>
            intro y W hE hR
            have hd0 : Is (.v (ptr B)) (y 0) W := hR 0 (by omega)
            have hd14 : Is (.d 3 (.l 1 (([[k_char], [c.code, c.glyph, c.width].map num, []] : List (List ByteArray)).map strsD))) (y 14) W := hR 14 (by omega)
            have hd0 : y 0 = (ptr B) := hd0
            obtain ⟨ia14, ic14, hv14, hd14⟩ := hd14
            clear hR
            simp only [Fill, fillTmps, Act.put, List.setIfInBounds_toArray, List.set_cons_zero, List.set_cons_succ, hd0, hv14]
            rw [hv14] at hd14
            simp only [List.drop_succ_cons, List.drop_zero]
            go_wp2_with fail
            have eW : Ext (Wr w3 B B) w3 W := HQ.out.2.trans (S := Wr w3 B B) ((ext0 H6.out.1 hE).mono (fun _ z => z.elim) : Ext Nope wq W) (fun _ _ z => z.elim)
            refine (line_ok ((HQ.out.1.ext0 H6.out.1).ext0 hE) (KP.out _ eW).2.2.1 hd14 (by simp) (by simp) hlim.out).mono ?_
            rintro e w6 ⟨rfl, b6, e6⟩
            have H8 : Hid (WB w6 B B (f2 ++ charsC (chars.take (q + 1))) ∧ Ext (Wr w3 B B) w3 w6) := by
              refine ⟨?_, Wr.trans eW e6⟩
              unfold charsC
              rw [flat_succ HRd.out.1, ← List.append_assoc]
              exact b6
            clear b6 e6 eW hd14 hE SK cr0 cr1 cr2 cr3
            go_wp2
            go_roundw
            case rel => exact ⟨q + 1, by go_num, by omega, H8.out⟩
            case measure => simp [intOf]; omega
        · have hqq : q = n5 := by omega
          subst hqq
          have s2 : decide ((q : Int) < (q : Int)) = false := by simp
          have HB3 : Hid (WB wq B B (f2 ++ charsC chars) ∧ Ext (Wr w3 B B) w3 wq) := by
            have h := HQ.out
            rw [List.take_of_length_le (by have := HN.out; omega)] at h
            exact h
          obtain ⟨c0, c1, c2, c3, c4, c5, c6, c7, c8, c9, c10⟩ := font_cells (KP.out _ HB3.out.2).1
          obtain ⟨f3, HF3⟩ : ∃ l, Hid (f2 ++ charsC chars = l) := ⟨_, rfl⟩
          rw [HF3.out] at HB3 HLn
          clear HQ
          go_wp2_with fail
          go_loopw [91] (fun i wz => i = .int .i64 0 ∧ wz = wq) (fun _ _ => 0)
          case atStart => exact ⟨rfl, rfl⟩
          case round =>
            obtain ⟨rfl, hw⟩ := hrel
            have hw := hw.symm
            subst hw
            go_wp2_with fail
            clear c0 c1 c2 c3 c4 c5 c6 c7 c8 c9 c10 s2
            go_loopw [112] (fun i wg => ∃ p : Nat, i = .int .i64 p ∧ p ≤ ng ∧ WB wg B B (f3 ++ glyphsC (glyphs.take p)) ∧ Ext (Wr w3 B B) w3 wg) (fun i _ => ng - (intOf i).toNat)
            case atStart => exact ⟨0, rfl, Nat.zero_le _, by simpa [glyphsC] using HB3.out.1, HB3.out.2⟩
            case round =>
              obtain ⟨p, rfl, hpn, hWg⟩ := hrel
              rename World => wg
              have HGl := toHid hWg
              clear hWg
              by_cases hpg : p < ng
              · obtain ⟨g, hg⟩ : ∃ g, glyphs[p]? = some g := ⟨_, List.getElem?_eq_getElem (by have := HN.out.2.2.2; omega)⟩
                have KX := toHid (KP.out _ HGl.out.2)
                have hdG := HD.out.2.2.2
                obtain ⟨a', cap', hv, _, _, hll⟩ := hdG.l_inv
                simp only [List.cons.injEq, Value.slice.injEq, and_true] at hv
                obtain ⟨rfl, hq, rfl⟩ := hv
                clear hq
                obtain ⟨br, or_, rfl, hbA3, hbr2, hat⟩ := hll (by rw [List.length_map, HN.out.2.2.2]; omega)
                obtain ⟨us, hu1, hu2, hu3⟩ := hat p (glyphD g) (by rw [List.getElem?_map, hg]; rfl)
                have hone := hu3.one
                obtain ⟨u0, u1, u2, u3, u4, u5, u6, u7, rfl⟩ : ∃ u0 u1 u2 u3 u4 u5 u6 u7, us = [u0, u1, u2, u3, u4, u5, u6, u7] := by
                  match us, hu1 with
                  | [u0, u1, u2, u3, u4, u5, u6, u7], _ => exact ⟨u0, u1, u2, u3, u4, u5, u6, u7, rfl⟩
                have cr0 : wg.cell? ⟨br, or_ + p * 8, none⟩ = some u0 := KX.out.2.2.2.2 hbA3 (by simpa using hu2 0 _ rfl)
                have cr1 : wg.cell? ⟨br, or_ + p * 8 + 1, none⟩ = some u1 := KX.out.2.2.2.2 hbA3 (by simpa using hu2 1 _ rfl)
                have cr2 : wg.cell? ⟨br, or_ + p * 8 + 2, none⟩ = some u2 := KX.out.2.2.2.2 hbA3 (by simpa using hu2 2 _ rfl)
                have cr3 : wg.cell? ⟨br, or_ + p * 8 + 3, none⟩ = some u3 := KX.out.2.2.2.2 hbA3 (by simpa using hu2 3 _ rfl)
                have cr4 : wg.cell? ⟨br, or_ + p * 8 + 4, none⟩ = some u4 := KX.out.2.2.2.2 hbA3 (by simpa using hu2 4 _ rfl)
                have cr5 : wg.cell? ⟨br, or_ + p * 8 + 5, none⟩ = some u5 := KX.out.2.2.2.2 hbA3 (by simpa using hu2 5 _ rfl)
                have cr6 : wg.cell? ⟨br, or_ + p * 8 + 6, none⟩ = some u6 := KX.out.2.2.2.2 hbA3 (by simpa using hu2 6 _ rfl)
                have cr7 : wg.cell? ⟨br, or_ + p * 8 + 7, none⟩ = some u7 := KX.out.2.2.2.2 hbA3 (by simpa using hu2 7 _ rfl)
                have o0 := store_one (P := Tryz.prog) (hone u0 (by simp))
                have o1 := store_one (P := Tryz.prog) (hone u1 (by simp))
                have o2 := store_one (P := Tryz.prog) (hone u2 (by simp))
                have o3 := store_one (P := Tryz.prog) (hone u3 (by simp))
                have o4 := store_one (P := Tryz.prog) (hone u4 (by simp))
                have o5 := store_one (P := Tryz.prog) (hone u5 (by simp))
                have o6 := store_one (P := Tryz.prog) (hone u6 (by simp))
                have o7 := store_one (P := Tryz.prog) (hone u7 (by simp))
                have HGM := toHid (HM.out.glyphs g (List.mem_of_getElem? hg))
                have HRd := toHid (show _ ∧ _ from ⟨hu3, hg⟩)
                have t1 : (0 : Int) ≤ (p : Int) := by omega
                have t2 : (p : Int) < (ng : Int) := by omega
                clear hdG hll hat hu2 hu3 hu1 hg hbr2 hone
                go_wp2_with fail
                have ex : Ext Nope wg (wg.alloc (.cells #[u0, u1, u2, u3, u4, u5, u6, u7] 47)) := (Ext.refl _ _).alloc _
                refine (glyph_write (KX.out.2.1.ext0 ex) (HGl.out.1.ext0 ex) (Nat.le_trans KX.out.2.2.1 ex.size) HGM.out.1 HGM.out.2 (cs := [u0, u1, u2, u3, u4, u5, u6, u7]) ((KX.out.2.2.2.1 HRd.out.1).ext0 ex) hAB.out hB64 ?_).mono ?_
                · have h1 := HLn.out
                  have h2 := flat_le glyphC glyphs (p + 1)
                  rw [flat_succ HRd.out.2] at h2
                  simp only [glyphsC, List.length_append] at h1 h2 ⊢
                  omega
                · rintro e w8 ⟨rfl, b8, e8⟩
                  have H8 : Hid (WB w8 B B (f3 ++ glyphsC (glyphs.take (p + 1))) ∧ Ext (Wr w3 B B) w3 w8) := by
                    refine ⟨?_, Wr.trans (HGl.out.2.trans (S := Wr w3 B B) (ex.mono (fun _ z => z.elim) : Ext Nope wg _) (fun _ _ z => z.elim)) e8⟩
                    unfold glyphsC
                    rw [flat_succ HRd.out.2]
                    rw [← List.append_assoc]
                    exact b8
                  clear b8 e8 ex cr0 cr1 cr2 cr3 cr4 cr5 cr6 cr7 o0 o1 o2 o3 o4 o5 o6 o7
                  go_wp2
                  go_roundw
                  case rel => exact ⟨p + 1, by go_num, by omega, H8.out⟩
                  case measure => simp [intOf]; omega
              · have hpp : p = ng := by omega
                subst hpp
                have s2 : decide ((p : Int) < (p : Int)) = false := by simp
                have HB4 : Hid (WB wg B B (f3 ++ glyphsC glyphs) ∧ Ext (Wr w3 B B) w3 wg) := by
                  have h := HGl.out
                  rw [List.take_of_length_le (by have := HN.out; omega)] at h
                  exact h
                obtain ⟨c0, c1, c2, c3, c4, c5, c6, c7, c8, c9, c10⟩ := font_cells (KP.out _ HB4.out.2).1
                have hne : f3 ++ glyphsC glyphs ≠ [] := by
                  intro h
                  have h1 := (List.append_eq_nil_iff.1 h).1
                  rw [← HF3.out] at h1
                  have h2 := (List.append_eq_nil_iff.1 h1).1
                  rw [← HF2.out] at h2
                  have h3 := (List.append_eq_nil_iff.1 h2).1
                  rw [← HFL.out] at h3
                  have h4 := lineC_len (fontSS nm ver).flatten
                  rw [h3] at h4
                  simp at h4
                have hStr := toHid (builder_string HB4.out.1 hne)
                have htx : Hid (f3 ++ glyphsC glyphs = textC ⟨⟨nm, ver, [], [], cnt, chars, [], heads, ⟨#[]⟩⟩, lookups, glyphs⟩) := by
                  unfold Hid textC
                  rw [← HF3.out, ← HF2.out, ← HFL.out]
                rw [htx.out] at hStr
                obtain ⟨tx, HTX⟩ : ∃ t, Hid ((⟨(textC ⟨⟨nm, ver, [], [], cnt, chars, [], heads, ⟨#[]⟩⟩, lookups, glyphs⟩).toArray⟩ : ByteArray) = t) := ⟨_, rfl⟩
                rw [HTX.out] at hStr
                go_wp2_with fail
                refine hStr.out.mono ?_
                rintro e w9 ⟨rfl, e9⟩
                have HZ := toHid e9
                clear e9
                go_wp2_with fail
                go_ret2
                have eA : Ext (fun k => B ≤ k) w3 wg := HB4.out.2.mono (fun k z => z.elim (fun z => by omega) (fun z => z.1))
                have eB : Ext (fun k => B ≤ k) wg w9 := ⟨HZ.out.os, HZ.out.tape, HZ.out.output, HZ.out.size, fun i hi hn => HZ.out.block i (by omega)⟩
                refine ⟨?_, H3.out.1.trans (eA.trans eB (fun _ _ z => z)) (fun k hk z => by have := HX.out; have z : B ≤ k := z; omega)⟩
                rw [HTX.out]
                rfl
end Go.Proofs.YtajebdpalnpjdaaGreatDoor
