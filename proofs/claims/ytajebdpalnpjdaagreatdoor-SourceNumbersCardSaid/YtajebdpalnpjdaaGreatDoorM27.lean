/-
  source.Parse of sanity's first text.
  A region that draws its order, by what each operation yields, whatever came before it.
-/
import Derived.Test.YtajebdpalnpjdaaGreatDoorM26
import Derived.Test.YtajebdpalnpjdaaGreatDoorM00
namespace Go.Proofs.YtajebdpalnpjdaaGreatDoor
open Go.RowKit
attribute [local go_sem] alloc_drewN setCell_drewN

abbrev t_1 : ByteArray := ⟨#[102, 111, 110, 116, 32, 97, 32, 49, 59, 99, 104, 97, 114, 32, 54, 53, 32, 48, 32, 51, 48, 59, 103, 108, 121, 112, 104, 32, 51, 48, 59, 99, 111, 110, 116, 111, 117, 114, 32, 48, 44, 48, 32, 49, 48, 44, 48, 126, 32, 53, 44, 50, 48, 59, 112, 114, 111, 103, 114, 97, 109, 32, 112, 117, 115, 104, 32, 53, 32, 115, 101, 116, 120, 32, 49, 59]⟩
theorem num_two (a b : Nat) (ha : a < 10) (hb : b < 10) (ha1 : 1 ≤ a) : (num ((a * 10 + b : Nat) : Int)).data.toList = [UInt8.ofNat (48 + a), UInt8.ofNat (48 + b)] := by
  rw [num_list, Lib.itoa, if_neg (by omega), Lib.decDigits, dif_neg (by omega)]
  rw [show ((((a * 10 + b : Nat) : Int).toNat) / 10) = a by omega, show ((((a * 10 + b : Nat) : Int).toNat) % 10) = b by omega, Lib.decDigits, dif_pos ha]
  rfl
theorem num_30 : (num 30).data.toList = [51, 48] := num_two 3 0 (by omega) (by omega) (by omega)
theorem num_10 : (num 10).data.toList = [49, 48] := num_two 1 0 (by omega) (by omega) (by omega)
theorem num_20 : (num 20).data.toList = [50, 48] := num_two 2 0 (by omega) (by omega) (by omega)
def c_1 : List PtA := [⟨0, 0, true⟩, ⟨10, 0, false⟩, ⟨5, 20, true⟩]
def g_1 : GlyphA := ⟨[c_1], [], ⟨0, 0, 0⟩, 30, [], progA⟩
def f_1 : FontA := ⟨⟨n_a, 1, [], [], 1, [⟨65, 0, 30, []⟩], [], [], ⟨#[]⟩⟩, [], [g_1]⟩
abbrev lines_1 : List ByteArray := [joinB 32 [k_font, n_a, num 1], joinB 32 [k_char, num 65, num 0, num 30], joinB 32 [k_glyph, num 30], joinB 32 (k_contour :: c_1.map ptText), joinB 32 (k_program :: insWords progA)]
theorem text_1 : semi t_1 = textB lines_1 ⟨#[]⟩ := by
  apply bytes_ext
  simp [semi, semi1, textB, linesC, joinB_list, joinC, num_1, num_5, num_0, num_65, num_10, num_20, num_30, insWords, progA, insW, insR, c_1, ptText, ptCore]
def cells_1 (vch vg : Value) (k : ByteArray) : List Value := [.string n_a, .int .i64 1, .slice none 0 0, .slice none 0 0, .int .i64 0, vch, .slice none 0 0, .slice none 0 0, .string ⟨#[]⟩, .slice none 0 0, vg, .string k]
abbrev charC : List Value := [.int .i64 65, .int .i64 0, .int .i64 30, .slice none 0 0]
def OwnC (w : World) (base : Nat) (v : Value) : Prop := w.ownsRow base 104 4 v 1 charC
def StA (w : World) : Nat → World → Prop
  | 0, W => ∃ u, RB W (w.heap.size + 1) cells0 u
  | 1, W => ∃ u, RB W (w.heap.size + 1) (cells_1 (.slice none 0 0) (.slice none 0 0) k_font) u
  | 2, W => ∃ u v, RB W (w.heap.size + 1) (cells_1 v (.slice none 0 0) k_char) u ∧ OwnC W (w.heap.size + 2) v
  | 3, W => ∃ u v vg, RB W (w.heap.size + 1) (cells_1 v vg k_glyph) u ∧ OwnC W (w.heap.size + 2) v ∧ OwnG W (w.heap.size + 2) vg [(.slice none 0 0, 30, .slice none 0 0)]
  | 4, W => ∃ u v vg vc pv, RB W (w.heap.size + 1) (cells_1 v vg k_contour) u ∧ OwnC W (w.heap.size + 2) v ∧ OwnG W (w.heap.size + 2) vg [(vc, 30, .slice none 0 0)] ∧ OwnK W (w.heap.size + 2) vc [pv] ∧ OwnP W (w.heap.size + 2) pv c_1
  | 5, W => ∃ u v vg vc pv vp, RB W (w.heap.size + 1) (cells_1 v vg k_program) u ∧ OwnC W (w.heap.size + 2) v ∧ OwnG W (w.heap.size + 2) vg [(vc, 30, vp)] ∧ OwnK W (w.heap.size + 2) vc [pv] ∧ OwnP W (w.heap.size + 2) pv c_1 ∧ OwnT 194 W (w.heap.size + 2) vp progA
  | _, _ => False
theorem StA_ext {w : World} : ∀ k W W', StA w k W → Ext Nope W W' → StA w k W'
  | 0, W, W', ⟨u, h⟩, e => ⟨u, h.ext0 e⟩
  | 1, W, W', ⟨u, h⟩, e => ⟨u, h.ext0 e⟩
  | 2, W, W', ⟨u, v, h, o⟩, e => ⟨u, v, h.ext0 e, own_ext o e (fun _ _ z => z)⟩
  | 3, W, W', ⟨u, v, vg, h, o, k⟩, e => ⟨u, v, vg, h.ext0 e, own_ext o e (fun _ _ z => z), own_ext k e (fun _ _ z => z)⟩
  | 4, W, W', ⟨u, v, vg, vc, pv, h, o, k, c, p⟩, e => ⟨u, v, vg, vc, pv, h.ext0 e, own_ext o e (fun _ _ z => z), own_ext k e (fun _ _ z => z), own_ext c e (fun _ _ z => z), p.ext0 e⟩
  | 5, W, W', ⟨u, v, vg, vc, pv, vp, h, o, k, c, p, t⟩, e => ⟨u, v, vg, vc, pv, vp, h.ext0 e, own_ext o e (fun _ _ z => z), own_ext k e (fun _ _ z => z), own_ext c e (fun _ _ z => z), p.ext0 e, t.ext0 e⟩
  | _ + 6, _, _, h, _ => h.elim
/-- A font stands in the cells of f, in blocks of A. -/
def FontAt (A : Nat → Prop) (W : World) (f : FV) (F : FontA) : Prop := Rd A W f.cells (.r (fontL F))
theorem glyphE_1 : glyphE g_1 0 = 0 := by decide
theorem progA_i64 : ∀ p ∈ progA, i64 p.1 ∧ i64 p.2 := by
  intro p hp
  simp only [progA, List.mem_cons, List.not_mem_nil, or_false] at hp
  rcases hp with rfl | rfl <;> (unfold i64; omega)
theorem c_1_i64 : ∀ p ∈ c_1, Pt7 p := by
  intro p hp
  simp only [c_1, List.mem_cons, List.not_mem_nil, or_false] at hp
  rcases hp with rfl | rfl | rfl <;> (unfold Pt7; simp only []; omega)
theorem OwnC.rd {A : Nat → Prop} {w : World} {base : Nat} {v : Value} (h : OwnC w base v) (hA : ∀ b, base ≤ b → A b) : Rd A w [v] (.l 4 [charD ⟨65, 0, 30, []⟩]) := by
  refine Rd.own (xs := [charD ⟨65, 0, 30, []⟩]) h (fun g hg => hA g (World.ownsRow.lt h g hg).1) fun k x hk => ?_
  match k, hk with
  | 0, hk =>
    cases hk
    exact Rd.mk1 (Rd.int 65 (by unfold i64; omega)) (Rd.mk1 (Rd.int 0 (by unfold i64; omega)) (Rd.mk1 (Rd.int 30 (by unfold i64; omega)) (Rd.mk1 (Rd.empty _) Rd.ends)))
theorem glyph_rdA {A : Nat → Prop} {w : World} {base : Nat} {vg vc vp pv : Value} (ho : OwnG w base vg [(vc, 30, vp)]) (hk : OwnK w base vc [pv]) (hp : OwnP w base pv c_1) (ht : OwnT 194 w base vp progA) (hA : ∀ b, base ≤ b → A b) : Rd A w [vg] (.l 8 [glyphD g_1]) := by
  have h1 : Rd A w [pv] (contourD c_1) := OwnP.rd hp hA (fun p hp => by have := c_1_i64 p hp; unfold Pt7 at this; unfold i64; omega)
  have h2 : Rd A w [vc] (.l 1 [contourD c_1]) := Rd.own (xs := [contourD c_1]) hk (fun g hg => hA g (World.ownsRow.lt hk g hg).1) fun k x hk => by
    match k, hk with
    | 0, hk => cases hk; exact h1
  have h3 : Rd A w [vp] (.l 2 (progA.map pairD)) := OwnT.rd ht hA progA_i64
  refine Rd.own (xs := [glyphD g_1]) ho (fun g hg => hA g (World.ownsRow.lt ho g hg).1) fun k x hk' => ?_
  match k, hk' with
  | 0, hk' =>
    cases hk'
    exact Rd.mk1 h2 (Rd.mk1 (Rd.empty 3) (Rd.mk1 (Rd.int 0 (by unfold i64; omega)) (Rd.mk1 (Rd.int 0 (by unfold i64; omega)) (Rd.mk1 (Rd.int 0 (by unfold i64; omega)) (Rd.mk1 (Rd.int 30 (by unfold i64; omega)) (Rd.mk1 (Rd.empty _) (Rd.mk1 h3 Rd.ends)))))))
/-- font.Check of the first text's font -/
theorem check_1 {w : World} {a5 ag : Option Addr} {c5 cg : Nat} (hC : Rd (fun _ => True) w [.slice a5 1 c5] (.l 4 [charD ⟨65, 0, 30, []⟩])) (hG : Rd (fun _ => True) w [.slice ag 1 cg] (.l 8 [glyphD g_1])) :
    Calls Tryz.prog 13 #[.agg (TV.cells ⟨⟨1, 1, a5, 1, c5, none, 0, 0⟩, none, 0, 0, ag, 1, cg⟩)] w fun e w' => e = .returned (.int .i64 0) ∧ Ext Nope w w' := by
  have hok : FontOK (fun _ => True) w ⟨⟨1, 1, a5, 1, c5, none, 0, 0⟩, none, 0, 0, ag, 1, cg⟩ [charD ⟨65, 0, 30, []⟩] [] (fun _ => 0) (fun _ => 0) [] [glyphD g_1] (fun _ => 0) (fun k => match [g_1][k]? with | some g => glyphE g 0 | none => 0) := by
    refine ⟨⟨hC, Rd.empty _, fun W bb e hz => ?_, fun _ _ _ _ => Checks.none⟩, Rd.empty _, hG, fun _ _ _ _ => Checks.none, fun W bb e hz => ?_⟩
    · intro k W' u hk e' hu
      obtain ⟨x, cs, rfl, hx, hr⟩ := hu
      have hk0 : k = 0 := Nat.lt_one_iff.1 hk
      subst hk0
      have hx : charD ⟨65, 0, 30, []⟩ = x := by simpa using hx
      subst hx
      obtain ⟨_, rfl, _, hr⟩ := hr.ri
      obtain ⟨_, rfl, _, hr⟩ := hr.ri
      obtain ⟨_, rfl, _, hr⟩ := hr.ri
      obtain ⟨v3, _, rfl, h3, hr⟩ := hr.rl
      have hn := hr.r_nil
      subst hn
      exact char_closure (f := ⟨1, 1, a5, 1, c5, none, 0, 0⟩) ((e'.block _ (lt_of_heap hz) (fun z => z)).trans hz) rfl h3
    · refine glyphs_checks (gs := [g_1]) (pe := fun _ => 0) (fun k g' hk => ?_) hz
      match k, hk with
      | 0, hk =>
        cases hk
        exact ⟨⟨rfl, rfl, rfl⟩, by decide, by decide, .inr (.inl ⟨rfl, rfl, by decide⟩)⟩
  refine (font_check hok).mono ?_
  rintro e w' ⟨rfl, e1⟩
  refine ⟨congrArg (fun z => Ending.returned (Value.int .i64 z)) ?_, e1⟩
  simp [fontErr, coreErr, headErr, firstE, glyphE_1]
theorem lines_1_nl : ∀ l ∈ lines_1, (10 : UInt8) ∉ l.data.toList := by
  intro l hl
  have hok : ∀ x ∈ progA, InsOK x := fun x hx => by
    simp only [progA, List.mem_cons, List.not_mem_nil, or_false] at hx
    rcases hx with rfl | rfl
    · exact Or.inl rfl
    · exact Or.inr (Or.inl rfl)
  simp only [List.mem_cons, List.not_mem_nil, or_false] at hl
  rcases hl with rfl | rfl | rfl | rfl | rfl
  · refine join_nl fun p hp => ?_
    simp only [List.mem_cons, List.not_mem_nil, or_false] at hp
    rcases hp with rfl | rfl | rfl <;> first | decide | exact num_nl _
  · refine join_nl fun p hp => ?_
    simp only [List.mem_cons, List.not_mem_nil, or_false] at hp
    rcases hp with rfl | rfl | rfl | rfl <;> first | decide | exact num_nl _
  · refine join_nl fun p hp => ?_
    simp only [List.mem_cons, List.not_mem_nil, or_false] at hp
    rcases hp with rfl | rfl <;> first | decide | exact num_nl _
  · rw [show (joinB 32 (k_contour :: c_1.map ptText)).data.toList = [99, 111, 110, 116, 111, 117, 114, 32, 48, 44, 48, 32, 49, 48, 44, 48, 126, 32, 53, 44, 50, 48] by rw [joinB_list]; simp [joinC, num_5, num_0, num_10, num_20, c_1, ptText, ptCore, joinB_list]]
    decide
  · refine join_nl fun p hp => ?_
    rcases List.mem_cons.1 hp with rfl | hp
    · decide
    · exact insWords_not hok (Or.inr rfl) p hp
/-- What is read of the first text. -/
def One (w W : World) (f : FV) (err : Int) : Prop := err = 0 ∧ FontAt (fun b => w.heap.size < b) W f f_1 ∧ ∃ a5 c5 ag cg, f = ⟨n_a, 1, ⟨none, 0, 0⟩, ⟨none, 0, 0⟩, 1, ⟨a5, 1, c5⟩, ⟨none, 0, 0⟩, ⟨none, 0, 0⟩, ⟨#[]⟩, ⟨none, 0, 0⟩, ⟨ag, 1, cg⟩⟩ ∧ Rd (fun b => w.heap.size < b) W [.slice a5 1 c5] (.l 4 [charD ⟨65, 0, 30, []⟩]) ∧ Rd (fun b => w.heap.size < b) W [.slice ag 1 cg] (.l 8 [glyphD g_1])
set_option maxHeartbeats 1000000 in
/-- source.Parse of the first text -/
theorem parse_1 {w : World} (G : Glob w) (hg : 11 ≤ w.heap.size) :
    Calls Tryz.prog 6 #[.string (semi t_1)] w fun e w' => ∃ f, e = .returned (.tuple #[FV.val f, .int .i64 0, .int .i64 0]) ∧ FontAt (fun b => w.heap.size < b) w' f f_1 ∧ Ext Nope w w' ∧ ∀ W', Ext Nope w' W' → Calls Tryz.prog 13 #[FV.val f] W' fun e w'' => e = .returned (.int .i64 0) ∧ Ext Nope W' w'' := by
  have hok : ∀ x ∈ progA, InsOK x := fun x hx => by
    simp only [progA, List.mem_cons, List.not_mem_nil, or_false] at hx
    rcases hx with rfl | rfl
    · exact Or.inl rfl
    · exact Or.inr (Or.inl rfl)
  rw [text_1]
  refine (parse_goes G hg lines_1_nl (by simp) ?_ (St := StA w) StA_ext (fun W e r => ⟨_, r⟩) (fun k l W1 hl hS hE => ?_) (R := One w) (fun W1 hS hE => ?_)).mono ?_
  · rw [← text_1, semi_size]; decide
  · have GW := G.ext0 hE
    match k, hl with
    | 0, hl =>
      have hl : joinB 32 [k_font, n_a, num 1] = l := by simpa using hl
      subst hl
      obtain ⟨u, hr⟩ := hS
      refine (line_font GW (by omega) hr rfl (by omega) (by omega)).mono ?_
      rintro e w' ⟨rfl, ⟨u', hr'⟩, e'⟩
      exact ⟨rfl, ⟨u', hr'⟩, e'.mono (fun b z => by have z : b = w.heap.size + 1 := z; omega)⟩
    | 1, hl =>
      have hl : joinB 32 [k_char, num 65, num 0, num 30] = l := by simpa using hl
      subst hl
      obtain ⟨u, hr⟩ := hS
      have hbs : w.heap.size + 2 ≤ W1.heap.size := by have := hr.lt; omega
      refine (line_char GW (by omega) hr (before := k_font) rfl (by decide) (by omega) (by omega) (by omega) rfl).mono ?_
      rintro e w' ⟨rfl, ⟨v, u', hr', ho'⟩, e'⟩
      exact ⟨rfl, ⟨u', v, hr', own_base ho' (fun g hg' => Nat.le_trans hbs (World.ownsRow.lt ho' g hg').1)⟩, e'.mono (fun b z => by have z : b = w.heap.size + 1 := z; omega)⟩
    | 2, hl =>
      have hl : joinB 32 [k_glyph, num 30] = l := by simpa using hl
      subst hl
      obtain ⟨u, v, hr, hc⟩ := hS
      have hbs : w.heap.size + 2 ≤ W1.heap.size := by have := hr.lt; omega
      refine (line_glyph GW (base := w.heap.size + 2) (by omega) (by omega) hbs hr (before := k_char) rfl (by decide) (by omega) (by omega) (vg := .slice none 0 0) (gs := []) rfl ⟨rfl, .inl ⟨rfl, rfl⟩⟩ (by simp)).mono ?_
      rintro e w' ⟨rfl, ⟨vg', u', hr', ho'⟩, e'⟩
      refine ⟨rfl, ⟨u', v, vg', hr', own_ext hc e' (fun g hg' z => ?_), ho'⟩, e'.mono (fun b z => z.elim (fun z => by omega) (fun z => by simp [Value.ownBlock] at z))⟩
      rcases z with z | z
      · have := (World.ownsRow.lt hc g hg').1; omega
      · cases z
    | 3, hl =>
      have hl : joinB 32 (k_contour :: c_1.map ptText) = l := by simpa using hl
      subst hl
      obtain ⟨u, v, vg, hr, hc, ho⟩ := hS
      have hbs : w.heap.size + 2 ≤ W1.heap.size := by have := hr.lt; omega
      refine (line_contour GW (Nat.le_trans hg hE.size) (base := w.heap.size + 2) (by omega) (by omega) hbs hr (before := k_glyph) rfl (by decide) c_1_i64 (by decide) ?_ (vg := vg) (gs := []) (cvs := []) rfl ho (by simp) ⟨rfl, .inl ⟨rfl, rfl⟩⟩ (by simp)).mono ?_
      · show (joinB 32 (k_contour :: c_1.map ptText)).data.size ≤ _
        rw [← Array.length_toList, show (joinB 32 (k_contour :: c_1.map ptText)).data.toList = [99, 111, 110, 116, 111, 117, 114, 32, 48, 44, 48, 32, 49, 48, 44, 48, 126, 32, 53, 44, 50, 48] by rw [joinB_list]; simp [joinC, num_5, num_0, num_10, num_20, c_1, ptText, ptCore, joinB_list]]
        decide
      · rintro e w' ⟨rfl, ⟨vc', pv, u', hr', ho', hk', hp'⟩, e'⟩
        refine ⟨rfl, ⟨u', v, vg, vc', pv, hr', own_ext hc e' (fun g hg' z => ?_), ho', hk', OwnP.mono hp' hbs⟩, e'.mono (fun b z => ?_)⟩
        · rcases z with z | z | z
          · have := (World.ownsRow.lt hc g hg').1; omega
          · exact own_apart hc ho (by decide) g hg' z
          · cases z
        · rcases z with z | z | z
          · omega
          · have := (World.ownsRow.lt ho b z).1; omega
          · cases z
    | 4, hl =>
      have hl : joinB 32 (k_program :: insWords progA) = l := by simpa using hl
      subst hl
      obtain ⟨u, v, vg, vc, pv, hr, hc, ho, hk, hp⟩ := hS
      have hbs : w.heap.size + 2 ≤ W1.heap.size := by have := hr.lt; omega
      refine (line_program GW (base := w.heap.size + 2) (by omega) (by omega) hbs hr (before := k_contour) rfl (by decide) hok (by decide) (by decide) ?_ (vg := vg) (gs := []) (a := 30) (vc := vc) (vp := .slice none 0 0) rfl ho (by simp)).mono ?_
      · show (joinB 32 (k_program :: insWords progA)).data.size ≤ _
        rw [← Array.length_toList, joinB_list]
        simp [joinC, num_5, num_1, insWords, progA, insW, insR]
      · rintro e w' ⟨rfl, ⟨vp, u', hr', ho', ht'⟩, e'⟩
        have hlt2 : ∀ {b : Nat} {E sz n : Nat} {x : Value} {xs : List Value}, W1.ownsRow (w.heap.size + 2) E sz x n xs → E ≠ 47 → ∀ g, x.ownBlock = some g → ¬ (g = w.heap.size + 1 ∨ vg.ownBlock = some g) := fun {b E sz n x xs} h hE g hg' z => by
          rcases z with z | z
          · have := (World.ownsRow.lt h g hg').1; omega
          · exact own_apart h ho hE g hg' z
        refine ⟨rfl, ⟨u', v, vg, vc, pv, vp, hr', own_ext hc e' (hlt2 (b := 0) hc (by decide)), ho', own_ext hk e' (hlt2 (b := 0) hk (by decide)), own_ext hp e' (hlt2 (b := 0) hp (by decide)), ht'.mono hbs⟩, e'.mono (fun b z => ?_)⟩
        rcases z with z | z
        · omega
        · have := (World.ownsRow.lt ho b z).1; omega
  · obtain ⟨u, v, vg, vc, pv, vp, hr, hc, ho, hk, hp, ht⟩ := (show StA w 5 W1 from hS)
    obtain ⟨a5, c5, hv5, _⟩ := own_gen (show W1.ownsRow _ _ _ v 1 _ from hc)
    obtain ⟨ag, cg, hvg, _⟩ := own_gen (show W1.ownsRow _ _ _ vg 1 _ from ho)
    subst hv5 hvg
    have r5 := OwnC.rd (A := fun b => w.heap.size < b) hc (fun b hb => by show w.heap.size < b; omega)
    have rg := glyph_rdA (A := fun b => w.heap.size < b) ho hk hp ht (fun b hb => by show w.heap.size < b; omega)
    refine ⟨⟨n_a, 1, ⟨none, 0, 0⟩, ⟨none, 0, 0⟩, 0, ⟨a5, 1, c5⟩, ⟨none, 0, 0⟩, ⟨none, 0, 0⟩, ⟨#[]⟩, ⟨none, 0, 0⟩, ⟨ag, 1, cg⟩⟩, .string k_program, u, 0, hr, rfl, fun W' e' => ?_, rfl, ?_, a5, c5, ag, cg, rfl, r5, rg⟩
    · exact check_1 ((r5.ext0 e').mono fun _ _ _ => trivial) ((rg.ext0 e').mono fun _ _ _ => trivial)
    · exact Rd.mk1 (.str n_a (show n_a.size ≤ maxLen by decide)) (Rd.mk1 (Rd.int 1 (by unfold i64; omega)) (Rd.mk1 (Rd.empty _) (Rd.mk1 (Rd.empty _) (Rd.mk1 (Rd.int 1 (by unfold i64; omega)) (Rd.mk1 r5 (Rd.mk1 (Rd.empty _) (Rd.mk1 (Rd.empty _) (Rd.mk1 (.str (⟨#[]⟩ : ByteArray) (show (⟨#[]⟩ : ByteArray).size ≤ maxLen by decide)) (Rd.mk1 (Rd.empty _) (Rd.mk1 rg Rd.ends))))))))))
  · rintro e w' ⟨W, f, err, h1, ⟨rfl, hf, a5, c5, ag, cg, rfl, r5, rg⟩, h2, rfl⟩
    have hA : ∀ b, w.heap.size < b → ¬ b = w.heap.size := fun b hb z => by omega
    refine ⟨_, rfl, hf.ext h2 hA, h1.trans h2 (fun b hb z => by have z : b = w.heap.size := z; omega), fun W' e' => ?_⟩
    exact check_1 (((r5.ext h2 hA).ext0 e').mono fun _ _ _ => trivial) (((rg.ext h2 hA).ext0 e').mono fun _ _ _ => trivial)
end Go.Proofs.YtajebdpalnpjdaaGreatDoor
namespace Go.Proofs.YtajebdpalnpjdaaGreatDoor
/-- The slots of the operations hold y. -/
def fillTmps (t : Array Value) : List Tmp → Nat → (Nat → Value) → Array Value
  | [], _, _ => t
  | d :: ds, k, y => fillTmps (t.setIfInBounds d (y k)) ds (k + 1) y
def Fill (a : Act) (ds : List Tmp) (y : Nat → Value) : Act := { a with tmps := fillTmps a.tmps ds 0 y }
theorem fill_set {d : Tmp} {v : Value} {y : Nat → Value} : ∀ (ds : List Tmp) (k : Nat) (t : Array Value), d ∉ ds → (fillTmps t ds k y).setIfInBounds d v = fillTmps (t.setIfInBounds d v) ds k y
  | [], _, _, _ => rfl
  | d' :: ds, k, t, h => by
    have h1 : d ≠ d' := fun e => h (e ▸ List.mem_cons_self)
    unfold fillTmps
    rw [fill_set ds (k + 1) _ (fun z => h (List.mem_cons_of_mem _ z)), Array.setIfInBounds_comm _ _ (Ne.symm h1)]
theorem fill_congr {y y' : Nat → Value} : ∀ (ds : List Tmp) (k : Nat) (t : Array Value), (∀ j, k ≤ j → y j = y' j) → fillTmps t ds k y = fillTmps t ds k y'
  | [], _, _, _ => rfl
  | d :: ds, k, t, h => by
    unfold fillTmps
    rw [h k (Nat.le_refl _), fill_congr ds (k + 1) _ (fun j hj => h j (by omega))]
theorem fill_upd {d : Tmp} {v : Value} {y : Nat → Value} : ∀ (ds : List Tmp) (k i : Nat) (t : Array Value), ds.Nodup → ds[i]? = some d → (fillTmps t ds k y).setIfInBounds d v = fillTmps t ds k (fun j => if j = k + i then v else y j)
  | [], _, i, _, _, h => by simp at h
  | d' :: ds, k, 0, t, hn, h => by
    have h : d' = d := by simpa using h
    subst h
    unfold fillTmps
    dsimp only
    rw [fill_set ds (k + 1) _ (List.nodup_cons.1 hn).1, Array.setIfInBounds_setIfInBounds, if_pos (by omega)]
    exact fill_congr ds (k + 1) _ (fun j hj => (if_neg (by omega)).symm)
  | d' :: ds, k, i + 1, t, hn, h => by
    unfold fillTmps
    dsimp only
    rw [fill_upd ds (k + 1) i _ (List.nodup_cons.1 hn).2 (by simpa using h), if_neg (by omega)]
    congr 1
    funext j
    rw [show k + 1 + i = k + (i + 1) by omega]
theorem Fill.put {a : Act} {ds : List Tmp} {y : Nat → Value} {i : Nat} {d : Tmp} (v : Value) (hn : ds.Nodup) (hi : ds[i]? = some d) : (Fill a ds y).put (some d) v = Fill a ds (fun j => if j = i then v else y j) := by
  unfold Fill Act.put
  simp only
  rw [fill_upd ds 0 i _ hn hi]
  simp
theorem set_self (t : Array Value) (d : Nat) : t.setIfInBounds d (t.getD d undef) = t := by
  apply Array.ext
  · simp
  · intro i h1 h2
    by_cases hd : d = i
    · subst hd
      simp [h2]
    · exact Array.getElem_setIfInBounds_ne (by simpa using h2) hd
theorem fill_self_aux (t : Array Value) (f : Nat → Value) : ∀ (ds : List Tmp) (k : Nat), (∀ j d, ds[j]? = some d → f (k + j) = t.getD d undef) → fillTmps t ds k f = t
  | [], _, _ => rfl
  | d :: ds, k, h => by
    unfold fillTmps
    rw [show f k = t.getD d undef from h 0 d rfl, set_self]
    exact fill_self_aux t f ds (k + 1) (fun j d' hj => by rw [show k + 1 + j = k + (j + 1) by omega]; exact h (j + 1) d' (by simpa using hj))
theorem fill_self (a : Act) (ds : List Tmp) : ∃ y, Fill a ds y = a := by
  refine ⟨fun i => a.tmps.getD (ds.getD i 0) undef, ?_⟩
  unfold Fill
  rw [fill_self_aux a.tmps _ ds 0 (fun j d hj => by simp [List.getD_eq_getElem?_getD, hj])]
section
variable {P : Program} {ops : Array Oper} {Q : Exit → Act → World → Prop} {md : Region.Mode} {S : World → Prop}
/-- What is asked of the head besides. -/
def fillB (ops : Array Oper) (n : Nat) (ds : List Tmp) : Bool :=
  decide ds.Nodup && ds.length == n && ((List.range n).all fun i => match ops[i]? with | some o => o.guard.isNone && o.dst == ds[i]? && (o.after.all fun e => decide (e.on < i)) | none => false)
def unl (n : Nat) (listed : Array Bool) : List Nat := (List.range n).filter fun j => listed.getD j true == false
theorem unl_set {n i : Nat} {listed : Array Bool} (hi : i < n) (hu : listed.getD i true = false) : (unl n (listed.setIfInBounds i true)).length + 1 = (unl n listed).length := by
  have hmem : i ∈ unl n listed := List.mem_filter.2 ⟨List.mem_range.2 hi, by rw [hu]; rfl⟩
  have he : unl n (listed.setIfInBounds i true) = (unl n listed).erase i := by
    unfold unl
    rw [List.Nodup.erase_eq_filter (List.nodup_range.filter _)]
    rw [List.filter_filter]
    refine List.filter_congr fun j hj => ?_
    by_cases hji : j = i
    · subst hji
      have hl : j < listed.size := by
        rcases Nat.lt_or_ge j listed.size with h | h
        · exact h
        · simp [Array.getElem?_eq_none h] at hu
      simp [hl]
    · have : (listed.setIfInBounds i true).getD j true = listed.getD j true := by
        simp [Array.getD_eq_getD_getElem?, Array.getElem?_setIfInBounds_ne (Ne.symm hji)]
      rw [this]
      simp [hji]
  rw [he, List.length_erase_of_mem hmem]
  have : 0 < (unl n listed).length := List.length_pos_of_mem hmem
  omega
theorem fill_any {n : Nat} {ds : List Tmp} {a0 : Act} {R : Nat → Value → World → Prop} {L : Array Bool → Act → World → Prop} (hO : HeadOK md ops n) (hB : fillB ops n ds = true)
    (hstep : ∀ i oi, i < n → ops[i]? = some oi → ∀ y W, S W → (∀ e ∈ oi.after, Region.binds md e = true → R e.on (y e.on) W) → ∀ K : Act → World → Prop, Shut (∀ v W', S W' → (∀ j x, R j x W → R j x W') → R i v W' → K ((Fill a0 ds y).put oi.dst v) W') → Oper.wp P oi (Fill a0 ds y) W K Q)
    (hL : ∀ listed y w, listed.size = ops.size → (∀ j, j < n → listed.getD j true = true) → (∀ j, n ≤ j → j < ops.size → listed.getD j true = false) → S w → (∀ i, i < n → R i (y i) w) → L listed (Fill a0 ds y) w) :
    ∀ (f : Nat) (listed : Array Bool) (y : Nat → Value) (w : World), (unl n listed).length = f → HeadInv md ops n listed → S w → (∀ i, i < n → listed.getD i false = true → R i (y i) w) → wpAnyT P md ops Q S n L f listed (Fill a0 ds y) w := by
  unfold fillB at hB
  simp only [Bool.and_eq_true, decide_eq_true_eq, beq_iff_eq, List.all_eq_true, List.mem_range] at hB
  obtain ⟨⟨hnd, hlen⟩, hall⟩ := hB
  have hop : ∀ i, i < n → ∃ o, ops[i]? = some o ∧ o.guard = none ∧ o.dst = ds[i]? ∧ ∀ e ∈ o.after, e.on < i := fun i hi => by
    have h := hall i hi
    cases ho : ops[i]? with
    | none => rw [ho] at h; simp at h
    | some o =>
      rw [ho] at h
      simp only [Bool.and_eq_true, Option.isNone_iff_eq_none, beq_iff_eq] at h
      exact ⟨o, rfl, h.1.1, h.1.2, fun e he => of_decide_eq_true ((Array.all_eq_true_iff_forall_mem.1 h.2) e he)⟩
  intro f
  induction f with
  | zero =>
    intro listed y w hf inv hS hJ
    have hno : ∀ j, j < n → listed.getD j true = true := fun j hj => by
      cases h : listed.getD j true with
      | true => rfl
      | false =>
        have : j ∈ unl n listed := List.mem_filter.2 ⟨List.mem_range.2 hj, by rw [h]; rfl⟩
        rw [List.length_eq_zero_iff.1 hf] at this
        cases this
    refine ⟨fun j hj => ?_, hL listed y w inv.size hno inv.tail hS (fun i hi => hJ i hi ?_)⟩
    · rcases Nat.lt_or_ge j n with h | h
      · have := (mem_ready.1 hj).1
        rw [hno j h] at this
        cases this
      · exact h
    · have h1 := hno i hi
      have hl : i < listed.size := by rw [inv.size]; exact Nat.lt_trans hi hO.lt
      simp [hl] at h1 ⊢
      exact h1
  | succ f ih =>
    intro listed y w hf inv hS hJ
    obtain ⟨i0, hi0⟩ : ∃ i, i ∈ unl n listed := List.exists_mem_of_length_pos (by omega)
    have hmin : ∃ i, i < n ∧ listed.getD i true = false ∧ ∀ j, j < i → listed.getD j true = true := by
      have h1 := List.mem_filter.1 hi0
      have h2 : listed.getD i0 true = false := by simpa using h1.2
      have key : ∀ m, ∀ i, i ≤ m → i < n → listed.getD i true = false → ∃ i, i < n ∧ listed.getD i true = false ∧ ∀ j, j < i → listed.getD j true = true := by
        intro m
        induction m with
        | zero => intro i him hi h; exact ⟨i, hi, h, fun j hj => absurd hj (by omega)⟩
        | succ m ihm =>
          intro i him hi h
          by_cases hex : ∃ j, j < i ∧ listed.getD j true = false
          · obtain ⟨j, hj, hjf⟩ := hex
            exact ihm j (by omega) (by omega) hjf
          · refine ⟨i, hi, h, fun j hj => ?_⟩
            cases hjt : listed.getD j true with
            | true => rfl
            | false => exact absurd ⟨j, hj, hjt⟩ hex
      exact key i0 i0 (Nat.le_refl _) (List.mem_range.1 h1.1) h2
    obtain ⟨i1, h1n, h1u, h1m⟩ := hmin
    have hready : i1 ∈ Region.ready md ops listed := by
      obtain ⟨o, ho, _, _, haft⟩ := hop i1 h1n
      refine mem_ready.2 ⟨h1u, o, ho, fun e he _ => ?_⟩
      have h2 := h1m e.on (haft e he)
      have hl : e.on < listed.size := by rw [inv.size]; exact Nat.lt_trans (Nat.lt_trans (haft e he) h1n) hO.lt
      simp [hl] at h2 ⊢
      exact h2
    refine ⟨(fun h => by rw [h] at hready; cases hready), fun j hj => ?_⟩
    have hjn : j < n := by
      rcases Nat.lt_or_ge j n with h | h
      · exact h
      · exact absurd hj (tail_waits hO.sink hO.chain hO.lt inv _ i1 rfl h1n h1u j h)
    obtain ⟨hjun, oj, hoj, hafter⟩ := mem_ready.1 hj
    obtain ⟨o', ho', hg, hd, haft⟩ := hop j hjn
    have : oj = o' := by rw [hoj] at ho'; exact Option.some.inj ho'
    subst this
    refine ⟨hjn, wpOp_step hoj (fun K hK => ?_)⟩
    rw [if_pos (by simp [Region.wanted, hg])]
    refine hstep j oj hjn hoj y w hS (fun e he hb => hJ e.on (Nat.lt_trans (haft e he) hjn) (hafter e he hb)) K ?_
    intro v W' hS' hR hv
    refine hK _ _ ⟨hS', ?_⟩
    obtain ⟨d, hd'⟩ : ∃ d, ds[j]? = some d := ⟨_, List.getElem?_eq_getElem (by omega)⟩
    rw [hd, hd', Fill.put v hnd hd']
    refine ih _ _ _ (by have := unl_set hjn hjun; omega) (inv.set hj hjn) hS' (fun i hi hli => ?_)
    by_cases hij : i = j
    · subst hij
      simp only [if_pos]
      exact hv
    · simp only [if_neg hij]
      refine hR i _ (hJ i hi ?_)
      have : (listed.setIfInBounds j true).getD i false = listed.getD i false := by
        simp [Array.getD_eq_getD_getElem?, Array.getElem?_setIfInBounds_ne (Ne.symm hij)]
      rwa [this] at hli
/-- A region that draws its order, whose operations but the tail each yield what R says, whatever came before. -/
theorem wp_region_inv {id : Nat} {a : Act} {w : World} {l : List Oper} (n : Nat) (ds : List Tmp) (S : World → Prop) (R : Nat → Value → World → Prop) (hm : P.follows .mixedOrders = true) (hB : headB .any l.toArray n = true) (hF : fillB l.toArray n ds = true)
    (hT : Region.seqB .any l.toArray (l.drop n).length n ((List.range l.length).map fun j => decide (j < n)).toArray = true) (hS : S w.drew)
    (hstep : ∀ i oi, i < n → l.toArray[i]? = some oi → ∀ y W, S W → (∀ e ∈ oi.after, Region.binds .any e = true → R e.on (y e.on) W) → ∀ K : Act → World → Prop, Shut (∀ v W', S W' → (∀ j x, R j x W → R j x W') → R i v W' → K ((Fill a ds y).put oi.dst v) W') → Oper.wp P oi (Fill a ds y) W K Q)
    (hend : ∀ y W, S W → (∀ i, i < n → R i (y i) W) → wpList P l.toArray Q (l.drop n) (Fill a ds y) W) :
    (Code.region id l.toArray true).wp P Q a w := by
  have hO := headOK hB
  refine wp_region_head n S hm hB hS (fun _ _ => ?_)
  obtain ⟨y, hy⟩ := fill_self a ds
  rw [show wpAnyT P .any l.toArray Q S n (fun listed a' w' => Region.seqB .any l.toArray (l.drop n).length n listed = true ∧ wpList P l.toArray Q (l.drop n) a' w') n (Array.replicate l.toArray.size false) a w.drew = wpAnyT P .any l.toArray Q S n (fun listed a' w' => Region.seqB .any l.toArray (l.drop n).length n listed = true ∧ wpList P l.toArray Q (l.drop n) a' w') n (Array.replicate l.toArray.size false) (Fill a ds y) w.drew by rw [hy]]
  have hsz : n < l.toArray.size := hO.lt
  have hL : ∀ (listed : Array Bool) (y : Nat → Value) (w : World), listed.size = l.toArray.size → (∀ j, j < n → listed.getD j true = true) → (∀ j, n ≤ j → j < l.toArray.size → listed.getD j true = false) → S w → (∀ i, i < n → R i (y i) w) → Region.seqB .any l.toArray (l.drop n).length n listed = true ∧ wpList P l.toArray Q (l.drop n) (Fill a ds y) w := by
    intro listed y w hl h1 h2 hS' hR
    refine ⟨?_, hend y w hS' hR⟩
    have : listed = ((List.range l.length).map fun j => decide (j < n)).toArray := by
      apply Array.ext
      · simpa using hl
      · intro i hi1 hi2
        simp only [List.getElem_toArray, List.getElem_map, List.getElem_range]
        rcases Nat.lt_or_ge i n with h | h
        · have := h1 i h
          simp [hi1] at this
          simp [h, this]
        · have := h2 i h (by rw [← hl]; exact hi1)
          simp [hi1] at this
          rw [this]
          simp; omega
    rw [this]
    exact hT
  refine fill_any hO hF hstep hL n _ y _ ?_ ?_ hS (fun i hi h => ?_)
  · have : unl n (Array.replicate l.toArray.size false) = List.range n := by
      unfold unl
      refine List.filter_eq_self.2 fun j hj => ?_
      have := List.mem_range.1 hj
      have hj2 : j < l.length := by simp at hsz; omega
      simp [hj2]
    rw [this, List.length_range]
  · refine ⟨by simp, fun j oj _ h => ?_, fun t _ ht => ?_⟩
    · exfalso
      by_cases hj : j < l.length <;> simp [hj] at h
    · have : t < l.length := by simpa using ht
      simp [this]
  · exfalso
    by_cases hj : i < l.length <;> simp [hj] at h
end
end Go.Proofs.YtajebdpalnpjdaaGreatDoor
