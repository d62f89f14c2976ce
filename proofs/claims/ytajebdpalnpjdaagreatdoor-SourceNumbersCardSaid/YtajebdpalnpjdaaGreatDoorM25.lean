/-
  The law's texts that are no fonts.
  The line of a program; fonts of one glyph are checked.
  The law's texts that are no fonts fail as they should.
-/
import Derived.Test.YtajebdpalnpjdaaGreatDoorM18
import Derived.Test.YtajebdpalnpjdaaGreatDoorM24
import Derived.Test.YtajebdpalnpjdaaGreatDoorM23
namespace Go.Proofs.YtajebdpalnpjdaaGreatDoor
open Go.RowKit
attribute [local go_sem] alloc_drewN setCell_drewN

abbrev t_a : ByteArray := ⟨#[102, 111, 110, 116, 32, 97, 32, 49, 59, 103, 108, 121, 112, 104, 32, 48, 51, 48, 59]⟩
abbrev t_b : ByteArray := ⟨#[102, 111, 110, 116, 32, 97, 32, 49]⟩
abbrev t_c : ByteArray := ⟨#[]⟩
abbrev t_d : ByteArray := ⟨#[102, 111, 110, 116, 32, 97, 32, 49, 59, 103, 108, 121, 112, 104, 32, 53, 59, 99, 104, 97, 114, 32, 54, 53, 32, 48, 32, 49, 59]⟩
abbrev t_e : ByteArray := ⟨#[102, 111, 110, 116, 32, 97, 32, 48, 59, 103, 108, 121, 112, 104, 32, 53, 59]⟩
abbrev t_f : ByteArray := ⟨#[102, 111, 110, 116, 32, 97, 32, 49, 59]⟩
abbrev t_g : ByteArray := ⟨#[102, 111, 110, 116, 32, 97, 32, 49, 59, 103, 108, 121, 112, 104, 32, 53, 59, 112, 114, 111, 103, 114, 97, 109, 32, 105, 102, 59]⟩
theorem num_0 : (num 0).data.toList = [48] := by rw [num_list, Lib.itoa, if_neg (by decide), Lib.decDigits, dif_pos (by decide)]; rfl
theorem num_1 : (num 1).data.toList = [49] := by rw [num_list, Lib.itoa, if_neg (by decide), Lib.decDigits, dif_pos (by decide)]; rfl
theorem num_5 : (num 5).data.toList = [53] := by rw [num_list, Lib.itoa, if_neg (by decide), Lib.decDigits, dif_pos (by decide)]; rfl
theorem num_65 : (num 65).data.toList = [54, 53] := by
  rw [num_list, Lib.itoa, if_neg (by decide), Lib.decDigits, dif_neg (by decide)]
  rw [show Lib.decDigits ((65 : Int).toNat / 10) = [54] by rw [Lib.decDigits, dif_pos (by decide)]; rfl]
  rfl
theorem text_a : semi t_a = textB [joinB 32 [k_font, n_a, num 1], joinB 32 [k_glyph, ⟨#[48, 51, 48]⟩]] ⟨#[]⟩ := by
  apply bytes_ext
  simp [semi, semi1, textB, linesC, joinB_list, joinC, num_1]
theorem text_b : semi t_b = textB [] ⟨#[102, 111, 110, 116, 32, 97, 32, 49]⟩ := by
  apply bytes_ext
  simp [semi, semi1, textB, linesC]
theorem text_c : semi t_c = textB [] ⟨#[]⟩ := by
  apply bytes_ext
  simp [semi, semi1, textB, linesC]
theorem text_d : semi t_d = textB [joinB 32 [k_font, n_a, num 1], joinB 32 [k_glyph, num 5], joinB 32 [k_char, num 65, num 0, num 1]] ⟨#[]⟩ := by
  apply bytes_ext
  simp [semi, semi1, textB, linesC, joinB_list, joinC, num_1, num_5, num_0, num_65]
theorem text_e : semi t_e = textB [joinB 32 [k_font, n_a, num 0], joinB 32 [k_glyph, num 5]] ⟨#[]⟩ := by
  apply bytes_ext
  simp [semi, semi1, textB, linesC, joinB_list, joinC, num_0, num_5]
theorem text_f : semi t_f = textB [joinB 32 [k_font, n_a, num 1]] ⟨#[]⟩ := by
  apply bytes_ext
  simp [semi, semi1, textB, linesC, joinB_list, joinC, num_1]
theorem text_g : semi t_g = textB [joinB 32 [k_font, n_a, num 1], joinB 32 [k_glyph, num 5], joinB 32 (k_program :: insWords progB)] ⟨#[]⟩ := by
  apply bytes_ext
  simp [semi, semi1, textB, linesC, joinB_list, joinC, num_1, num_5, insWords, progB, insW, insR]
/-- A line 'glyph S', where S is no numeral -/
theorem line_glyph_bad {w : World} (G : Glob w) {rb : Nat} (hb : 11 ≤ rb) {v0 : Value} {cs : List Value} (h : RB w rb cs v0) {before : ByteArray} (hbe : cs[11]? = some (.string before)) (hin : Lib.containsS beforeGlyph before = true) {s : ByteArray} (hc : (32 : UInt8) ∉ s.data.toList) (hs : s.size ≤ 90000) (hv : ∀ n, Lib.atoiAll s.data.toList = .ok n → i64 n ∧ (num n ≠ s ∨ 9999999 < n.natAbs))
    {av : Option Addr} {k cv : Nat} (hg : cs[10]? = some (.slice av k cv)) :
    Calls Tryz.prog 11 #[ptr rb, .string (joinB 32 [k_glyph, s])] w fun e w' => e = .returned (.bool false) ∧ Ext (fun b => b = rb) w w' := by
  refine line_bad G hb h (kind := k_glyph) (ws := [s]) (fun p hp => ?_) ?_ hbe (fl := beforeGlyph) (fun W GW => follows_glyph GW) hin (isG := true) (by decide) (T := fun b => b = rb) rfl (fun z => by have z : w.heap.size = rb := z; have := h.lt; omega)
    (fun W e r GW => by
      rw [if_pos rfl]
      exact (glyph_bad GW hb r (by omega) hv hg).mono fun e w' ⟨he, _, hx⟩ => ⟨he, hx⟩)
  · simp only [List.mem_cons, List.not_mem_nil, or_false] at hp
    rcases hp with rfl | rfl
    · decide
    · exact hc
  · have e : (joinB 32 [k_glyph, s]).size = 6 + s.size := by
      have hh : ∀ b : ByteArray, b.size = b.data.toList.length := fun b => rfl
      rw [hh, hh, joinB_list]
      simp [joinC]
      omega
    omega
theorem num_nl (n : Int) : (10 : UInt8) ∉ (num n).data.toList := num_not (by decide) (by decide)
theorem joinC_nl {c : UInt8} (hc : c ≠ 10) : ∀ {ps : List (List UInt8)}, (∀ p ∈ ps, (10 : UInt8) ∉ p) → (10 : UInt8) ∉ joinC c ps
  | [], _ => by simp [joinC]
  | [p], h => by simpa [joinC] using h p (by simp)
  | p :: q :: r, h => by
    intro hm
    rw [show joinC c (p :: q :: r) = p ++ c :: joinC c (q :: r) from rfl] at hm
    rcases List.mem_append.1 hm with hm | hm
    · exact h p (by simp) hm
    · rcases List.mem_cons.1 hm with hm | hm
      · exact hc hm.symm
      · exact joinC_nl hc (fun p hp => h p (List.mem_cons_of_mem _ hp)) hm
theorem join_nl {ps : List ByteArray} (h : ∀ p ∈ ps, (10 : UInt8) ∉ p.data.toList) : (10 : UInt8) ∉ (joinB 32 ps).data.toList := by
  rw [joinB_list]
  refine joinC_nl (by decide) fun p hp => ?_
  obtain ⟨q, hq, rfl⟩ := List.mem_map.1 hp
  exact h q hq
theorem nl_a : ∀ l ∈ [joinB 32 [k_font, n_a, num 1], joinB 32 [k_glyph, (⟨#[48, 51, 48]⟩ : ByteArray)]], (10 : UInt8) ∉ l.data.toList := by
  intro l hl
  simp only [List.mem_cons, List.not_mem_nil, or_false] at hl
  rcases hl with rfl | rfl <;> refine join_nl fun p hp => ?_ <;> (simp only [List.mem_cons, List.not_mem_nil, or_false] at hp) <;> (rcases hp with rfl | rfl | rfl <;> first | decide | exact num_nl _)
end Go.Proofs.YtajebdpalnpjdaaGreatDoor
namespace Go.Proofs.YtajebdpalnpjdaaGreatDoor
open Go.RowKit
attribute [local go_sem] alloc_drewN setCell_drewN

theorem insWords_not {c : List (Int × Int)} (hc : ∀ x ∈ c, InsOK x) {b : UInt8} (hb : b = 32 ∨ b = 10) : ∀ p ∈ insWords c, b ∉ p.data.toList := by
  intro p hp
  obtain ⟨x, hx, hp⟩ := List.mem_flatMap.1 hp
  have hn : ∀ n : Int, b ∉ (num n).data.toList := fun n => by rcases hb with rfl | rfl <;> exact num_not (by decide) (by decide)
  rcases hc x hx with rfl | rfl | rfl
  · rcases List.mem_cons.1 hp with rfl | hp
    · rcases hb with rfl | rfl <;> decide
    · have : p = num 5 := by simpa [insR] using hp
      rw [this]; exact hn 5
  · rcases List.mem_cons.1 hp with rfl | hp
    · rcases hb with rfl | rfl <;> decide
    · have : p = num 1 := by simpa [insR] using hp
      rw [this]; exact hn 1
  · rcases List.mem_cons.1 hp with rfl | hp
    · rcases hb with rfl | rfl <;> decide
    · simp [insR] at hp
/-- A line 'program ..' -/
theorem line_program {w : World} (G : Glob w) {rb base : Nat} (hb : 11 ≤ rb) (hrb : rb < base) (hbw : base ≤ w.heap.size) {v0 vg vc vp : Value} {cs : List Value} (h : RB w rb cs v0) {before : ByteArray} (hbe : cs[11]? = some (.string before)) (hin : Lib.containsS ((kinds.drop 7).take 5) before = true) {c : List (Int × Int)} (hc : ∀ x ∈ c, InsOK x) (h0 : c ≠ []) (hl : c.length ≤ 1000) (hs : (joinB 32 (k_program :: insWords c)).size ≤ 100000)
    {a : Int} {gs : List (Value × Int × Value)} (hg : cs[10]? = some vg) (ho : OwnG w base vg (gs ++ [(vc, a, vp)])) (hgl : gs.length ≤ 100000) :
    Calls Tryz.prog 11 #[ptr rb, .string (joinB 32 (k_program :: insWords c))] w fun e w' => e = .returned (.bool true) ∧ (∃ v u, RB w' rb (cs.set 11 (.string k_program)) u ∧ OwnG w' base vg (gs ++ [(vc, a, v)]) ∧ OwnT 194 w' w.heap.size v c) ∧ Ext (fun b => b = rb ∨ vg.ownBlock = some b) w w' := by
  have hlt : ∀ b, vg.ownBlock = some b → base ≤ b ∧ b < w.heap.size := World.ownsRow.lt ho
  refine (line_good G hb h (kind := k_program) (ws := insWords c) (fun p hp => ?_) hs hbe (fl := (kinds.drop 7).take 5) (fun W GW => follows_program GW) hin (isG := true) (by decide)
    (Q := fun W w' => ∃ v, RL w' rb (fun b => w.heap.size < b ∧ b < W.heap.size) cs [] ∧ OwnG w' base vg (gs ++ [(vc, a, v)]) ∧ OwnT 194 w' W.heap.size v c ∧ Ext (fun b => b = rb ∨ vg.ownBlock = some b) W w')
    (fun W e r GW => by
      rw [if_pos rfl]
      exact glyph_program GW hb hrb (Nat.le_trans hbw e.size) r hc h0 hl hg (fun b hB => ⟨hB.2, fun z => absurd (hlt b z).2 (by omega)⟩)
        (own_ext ho e (fun g hg' z => by have := (hlt g hg').1; have z : g = rb := z; omega)) hgl)
    (fun W w' e q => by
      obtain ⟨v, q1, q2, q3, q4⟩ := q
      exact ⟨⟨_, _, q1⟩, _, q4, fun z => z.elim (fun z => absurd h.lt (by omega)) (fun z => absurd (hlt _ z).2 (by omega))⟩)).mono ?_
  · rcases List.mem_cons.1 hp with rfl | hp
    · decide
    · exact insWords_not hc (Or.inl rfl) p hp
  · rintro e w' ⟨rfl, W, w1, eW, ⟨v, q1, q2, q3, q4⟩, hz, e3, hr⟩
    obtain ⟨u, hu⟩ := hr _ _ q1
    refine ⟨rfl, ⟨v, u, hu, own_ext q2 e3 (fun g hg' z => ?_), OwnT.mono (own_ext q3 e3 (fun g hg' z => ?_)) eW.size⟩, ?_⟩
    · rcases z with z | z
      · have := (World.ownsRow.lt q2 g hg').1; omega
      · exact own_ne q2 hz (by decide) (by rw [← z]; exact hg')
    · rcases z with z | z
      · have := (World.ownsRow.lt q3 g hg').1; have := eW.size; omega
      · exact own_ne q3 hz (by decide) (by rw [← z]; exact hg')
    · exact (Ext.back eW q4 e3).mono (fun b z => z.elim (fun z => Or.inl z) id)
/-- One glyph in memory. -/
theorem glyph_rd {w : World} {base : Nat} {ag : Option Addr} {cg : Nat} {vc vp : Value} {A : Int} {cont : List (List PtA)} {prog : List (Int × Int)} (h : OwnG w base (.slice ag 1 cg) [(vc, A, vp)]) (hc : Rd (fun _ => True) w [vc] (.l 1 (cont.map contourD))) (hpg : Rd (fun _ => True) w [vp] (.l 2 (prog.map pairD))) (hA : i64 A) :
    Rd (fun _ => True) w [.slice ag 1 cg] (.l 8 [glyphD ⟨cont, [], ⟨0, 0, 0⟩, A, [], prog⟩]) := by
  refine Rd.own (xs := [glyphD ⟨cont, [], ⟨0, 0, 0⟩, A, [], prog⟩]) h (fun _ _ => trivial) fun k x hk' => ?_
  match k, hk' with
  | 0, hk' =>
    cases hk'
    exact Rd.mk1 hc (Rd.mk1 (Rd.empty 3) (Rd.mk1 (Rd.int 0 (by unfold i64; omega)) (Rd.mk1 (Rd.int 0 (by unfold i64; omega)) (Rd.mk1 (Rd.int 0 (by unfold i64; omega)) (Rd.mk1 (Rd.int A hA) (Rd.mk1 (Rd.empty _) (Rd.mk1 hpg Rd.ends)))))))
def ProgOK (g : GlyphA) (pe : Int) : Prop := (g.program = [] ∧ pe = 0) ∨ (g.program = progA ∧ pe = 0 ∧ 1 ≤ sumL g.contours) ∨ (g.program = progB ∧ pe = 25)
/-- font.proved of such glyphs -/
theorem proved_any {A : Nat → Prop} {w : World} {cs : List Value} {g : GlyphA} {pe : Int} (hp : Plain g) (hr : Rd A w cs (glyphD g)) (hb : sumL g.contours ≤ 39) (h : ProgOK g pe) : Calls Tryz.prog 35 #[.agg cs.toArray, .int .i64 0] w fun e w' => e = .returned (.int .i64 pe) ∧ Ext Nope w w' := by
  rcases h with ⟨h, rfl⟩ | ⟨h, rfl, hs⟩ | ⟨h, rfl⟩
  · obtain ⟨v0, v1, v6, v7, rfl, h0, h1, h5, h6, h7⟩ := hr.glyph
    obtain ⟨a7, cap7, hv7, _⟩ := h7.len
    rw [h] at hv7
    subst hv7
    exact proved_none v0 v1 _ _ _ _ v6 a7 cap7 (h0.one v0 (by simp)) (h1.one v1 (by simp)) (h6.one v6 (by simp)) 0
  · exact proved_prog hp hr hb (.inl ⟨h, rfl, hs⟩)
  · exact proved_prog hp hr hb (.inr ⟨h, rfl⟩)
def glyphE (g : GlyphA) (pe : Int) : Int := if glyphErr g ≠ 0 then glyphErr g else pe
/-- What font.Check asks of glyphs: of fonts without anchors and deltas. -/
theorem glyphs_checks {t : TV} {gs : List GlyphA} {pe : Nat → Int} (hg : ∀ k g, gs[k]? = some g → Plain g ∧ sumL g.contours ≤ 39 ∧ g.contours.length ≤ 1000 ∧ ProgOK g (pe k)) {W : World} {bb : Nat} (hz : W.heap[bb]? = some (.cells t.cells 36 (0, 0))) :
    Checks 33 #[ptr bb] W (gs.map glyphD).length (ElS (fun _ => True) (gs.map glyphD)) (fun k => match gs[k]? with | some g => glyphE g (pe k) | none => 0) := by
  intro k W' u hk e' hu
  obtain ⟨x, cs, rfl, hx, hr⟩ := hu
  rw [List.getElem?_map] at hx
  obtain ⟨g, hgk, rfl⟩ := Option.map_eq_some_iff.1 hx
  obtain ⟨h1, h2, h3, h4⟩ := hg k g hgk
  refine (glyph_closure (t := t) ((e'.block _ (lt_of_heap hz) (fun z => z)).trans hz) h1 hr (Nat.le_trans h2 (by omega)) (Nat.le_trans h3 (by omega)) k (pe := pe k) (fun W1 e1 => proved_any h1 (hr.ext0 e1) h2 h4)).mono ?_
  rintro e2 w2 ⟨rfl, e3⟩
  refine ⟨?_, e3⟩
  simp only [hgk, glyphE]
end Go.Proofs.YtajebdpalnpjdaaGreatDoor
namespace Go.Proofs.YtajebdpalnpjdaaGreatDoor
open Go.RowKit
attribute [local go_sem] alloc_drewN setCell_drewN

theorem semi_size (s : ByteArray) : (semi s).size = s.size := by
  show (s.data.map semi1).size = s.data.size
  simp
theorem step_font {w W : World} (G : Glob W) (hg : 11 ≤ w.heap.size) {v A : Int} (hv : -9999999 ≤ v ∧ v ≤ 9999999) (hS : lawSt w v A [] 0 W) :
    Calls Tryz.prog 11 #[ptr (w.heap.size + 1), .string (joinB 32 [k_font, n_a, num v])] W fun e w' => e = .returned (.bool true) ∧ lawSt w v A [] 1 w' ∧ Ext (fun b => w.heap.size < b) W w' := by
  obtain ⟨u, hr⟩ := hS
  refine (line_font G (by omega) hr rfl hv.1 hv.2).mono ?_
  rintro e w' ⟨rfl, ⟨u', hr'⟩, e'⟩
  exact ⟨rfl, ⟨u', hr'⟩, e'.mono (fun b z => by have z : b = w.heap.size + 1 := z; omega)⟩
theorem step_glyph {w W : World} (G : Glob W) (hg : 11 ≤ w.heap.size) {v A : Int} (hA : -9999999 ≤ A ∧ A ≤ 9999999) (hS : lawSt w v A [] 1 W) :
    Calls Tryz.prog 11 #[ptr (w.heap.size + 1), .string (joinB 32 [k_glyph, num A])] W fun e w' => e = .returned (.bool true) ∧ lawSt w v A [] 2 w' ∧ Ext (fun b => w.heap.size < b) W w' := by
  obtain ⟨u, hr⟩ := hS
  refine (line_glyph G (base := w.heap.size + 2) (by omega) (by omega) (by have := hr.lt; omega) hr (before := k_font) rfl (by decide) hA.1 hA.2 (vg := .slice none 0 0) (gs := []) rfl ⟨rfl, .inl ⟨rfl, rfl⟩⟩ (by simp)).mono ?_
  rintro e w' ⟨rfl, ⟨vg', u', hr', ho'⟩, e'⟩
  exact ⟨rfl, ⟨u', vg', hr', ho'⟩, e'.mono (fun b z => z.elim (fun z => by omega) (fun z => by simp [Value.ownBlock] at z))⟩
def FailsTo (w : World) (s : ByteArray) (n err : Int) : Prop := Calls Tryz.prog 9 #[.string s, .int .i64 n, .int .i64 err] w fun e w' => e = .returned (.bool true) ∧ Ext Nope w w'
/-- a zero in front -/
theorem fails_a {w : World} (G : Glob w) (hg : 11 ≤ w.heap.size) : FailsTo w t_a 2 4 := by
  refine fails_calls (by decide) text_a (fun W e => ?_)
  have hgW := Nat.le_trans hg e.size
  refine parse_stop (K := 1) (St := lawSt W 1 0 []) (G.ext0 e) hgW nl_a (by simp) ?_ (by decide) (fun h => by simp at h) lawSt_ext (fun W e r => ⟨_, r⟩) (fun k l W1 hk hl hS hE => ?_) (fun l W1 hl hS hE => ?_)
  · rw [← text_a, semi_size]; decide
  · match k, hk, hl with
    | 0, _, hl =>
      have hl : joinB 32 [k_font, n_a, num 1] = l := by simpa using hl
      subst hl
      exact step_font ((G.ext0 e).ext0 hE) hgW (by omega) hS
  · have hl : joinB 32 [k_glyph, (⟨#[48, 51, 48]⟩ : ByteArray)] = l := by simpa using hl
    subst hl
    obtain ⟨u, hr⟩ := hS
    refine (line_glyph_bad ((G.ext0 e).ext0 hE) (by omega) hr (before := k_font) rfl (by decide) (s := ⟨#[48, 51, 48]⟩) (by decide) (by decide) (fun n hn => ?_) (av := none) (k := 0) (cv := 0) rfl).mono fun e w' ⟨h1, h2⟩ => ⟨h1, h2.mono (fun b z => by have z : b = W.heap.size + 1 := z; omega)⟩
    have hn : Lib.atoiAll [48, 51, 48] = .ok n := hn
    have h30 : Lib.atoiAll [48, 51, 48] = .ok 30 := by kernel_rfl
    rw [h30] at hn
    cases hn
    refine ⟨by unfold i64; omega, Or.inl fun h => ?_⟩
    have := congrArg ByteArray.size h
    revert this
    have h30s : (num 30).data.toList = [51, 48] := by
      rw [num_list, Lib.itoa, if_neg (by decide), Lib.decDigits, dif_neg (by decide)]
      rw [show Lib.decDigits ((30 : Int).toNat / 10) = [51] by rw [Lib.decDigits, dif_pos (by decide)]; rfl]
      rfl
    have h1 : (num 30).size = 2 := by
      show (num 30).data.size = 2
      rw [← Array.length_toList, h30s]; rfl
    rw [h1]
    decide
/-- no end of the line -/
theorem fails_b {w : World} (G : Glob w) (hg : 11 ≤ w.heap.size) : FailsTo w t_b 1 4 := by
  refine fails_calls (by decide) text_b (fun W e => ?_)
  exact parse_stop (K := 0) (St := fun _ W => True) (G.ext0 e) (Nat.le_trans hg e.size) (by simp) (by decide) (by decide) (by decide) (fun _ => Or.inl rfl) (fun _ _ _ _ _ => trivial) (fun _ _ _ => trivial) (fun k l W1 hk => absurd hk (Nat.not_lt_zero _)) (fun l W1 hl => by simp at hl)
/-- no line at all -/
theorem fails_c {w : World} (G : Glob w) (hg : 11 ≤ w.heap.size) : FailsTo w t_c 1 4 := by
  refine fails_calls (by decide) text_c (fun W e => ?_)
  exact parse_stop (K := 0) (St := fun _ W => True) (G.ext0 e) (Nat.le_trans hg e.size) (by simp) (by decide) (by decide) (by decide) (fun _ => Or.inl rfl) (fun _ _ _ _ _ => trivial) (fun _ _ _ => trivial) (fun k l W1 hk => absurd hk (Nat.not_lt_zero _)) (fun l W1 hl => by simp at hl)
theorem nl_d : ∀ l ∈ [joinB 32 [k_font, n_a, num 1], joinB 32 [k_glyph, num 5], joinB 32 [k_char, num 65, num 0, num 1]], (10 : UInt8) ∉ l.data.toList := by
  intro l hl
  simp only [List.mem_cons, List.not_mem_nil, or_false] at hl
  rcases hl with rfl | rfl | rfl <;> refine join_nl fun p hp => ?_ <;> (simp only [List.mem_cons, List.not_mem_nil, or_false] at hp)
  · rcases hp with rfl | rfl | rfl <;> first | decide | exact num_nl _
  · rcases hp with rfl | rfl <;> first | decide | exact num_nl _
  · rcases hp with rfl | rfl | rfl | rfl <;> first | decide | exact num_nl _
theorem k_char_not (p : ByteArray) (hp : p ∈ [k_char, num 65, num 0, num 1]) : (32 : UInt8) ∉ p.data.toList := by
  simp only [List.mem_cons, List.not_mem_nil, or_false] at hp
  rcases hp with rfl | rfl | rfl | rfl <;> first | decide | exact num_not (by decide) (by decide)
/-- a character behind a glyph -/
theorem fails_d {w : World} (G : Glob w) (hg : 11 ≤ w.heap.size) : FailsTo w t_d 3 4 := by
  refine fails_calls (by decide) text_d (fun W e => ?_)
  have hgW := Nat.le_trans hg e.size
  refine parse_stop (K := 2) (St := lawSt W 1 5 []) (G.ext0 e) hgW nl_d (by simp) ?_ (by decide) (fun h => by simp at h) lawSt_ext (fun W e r => ⟨_, r⟩) (fun k l W1 hk hl hS hE => ?_) (fun l W1 hl hS hE => ?_)
  · rw [← text_d, semi_size]; decide
  · match k, hk, hl with
    | 0, _, hl =>
      have hl : joinB 32 [k_font, n_a, num 1] = l := by simpa using hl
      subst hl
      exact step_font ((G.ext0 e).ext0 hE) hgW (by omega) hS
    | 1, _, hl =>
      have hl : joinB 32 [k_glyph, num 5] = l := by simpa using hl
      subst hl
      exact step_glyph ((G.ext0 e).ext0 hE) hgW (by omega) hS
  · have hl : joinB 32 [k_char, num 65, num 0, num 1] = l := by simpa using hl
    subst hl
    obtain ⟨u, vg, hr, ho⟩ := hS
    refine (line_out ((G.ext0 e).ext0 hE) (by omega) hr (kind := k_char) (ws := [num 65, num 0, num 1]) k_char_not ?_ (before := k_glyph) rfl (fl := (kinds.drop 0).take 6) (fun W GW => follows_char GW) (by decide)).mono fun e w' ⟨h1, h2⟩ => ⟨h1, h2.mono (fun b z => by have z : b = W.heap.size + 1 := z; omega)⟩
    show (joinB 32 [k_char, num 65, num 0, num 1]).data.size ≤ _
    rw [← Array.length_toList, joinB_list]
    simp [joinC, num_65, num_0, num_1]
end Go.Proofs.YtajebdpalnpjdaaGreatDoor
