/-
  The law's texts whose fonts are not right fail as they should.
  The line of a char.
  A line of a char; what font.Check asks of a char.
-/
import Derived.Test.YtajebdpalnpjdaaGreatDoorM25
import Derived.Test.YtajebdpalnpjdaaGreatDoorM24
namespace Go.Proofs.YtajebdpalnpjdaaGreatDoor
open Go.RowKit
attribute [local go_sem] alloc_drewN setCell_drewN

/-- font.Check of a font of one glyph -/
theorem check_one {w : World} {v : Int} {ag : Option Addr} {cg : Nat} {g : GlyphA} {pe : Int} (h1 : Plain g) (h2 : sumL g.contours ≤ 39) (h3 : g.contours.length ≤ 1000) (h4 : ProgOK g pe) (hrd : Rd (fun _ => True) w [.slice ag 1 cg] (.l 8 [glyphD g])) :
    Calls Tryz.prog 13 #[.agg (lawT v ag cg).cells] w fun e w' => e = .returned (.int .i64 (if ¬ (1 ≤ v ∧ v ≤ 999) then 43 else glyphE g pe)) ∧ Ext Nope w w' := by
  have hok : FontOK (fun _ => True) w (lawT v ag cg) [] [] (fun _ => 0) (fun _ => 0) [] [glyphD g] (fun _ => 0) (fun k => match [g][k]? with | some g => glyphE g pe | none => 0) := by
    refine ⟨⟨Rd.empty _, Rd.empty _, fun _ _ _ _ => Checks.none, fun _ _ _ _ => Checks.none⟩, Rd.empty _, hrd, fun _ _ _ _ => Checks.none, fun W bb e hz => ?_⟩
    refine glyphs_checks (gs := [g]) (pe := fun _ => pe) (fun k g' hk => ?_) hz
    match k, hk with
    | 0, hk =>
      cases hk
      exact ⟨h1, h2, h3, h4⟩
  refine (font_check hok).mono ?_
  rintro e w' ⟨rfl, e1⟩
  refine ⟨congrArg (fun z => Ending.returned (Value.int .i64 z)) ?_, e1⟩
  simp only [fontErr, coreErr, headErr, firstE, List.length_nil, List.length_cons]
  by_cases hv : 1 ≤ v ∧ v ≤ 999 <;> simp [hv]
theorem check_none {w : World} {v : Int} (hv : 1 ≤ v ∧ v ≤ 999) :
    Calls Tryz.prog 13 #[.agg (TV.cells ⟨⟨v, 0, none, 0, 0, none, 0, 0⟩, none, 0, 0, none, 0, 0⟩)] w fun e w' => e = .returned (.int .i64 2) ∧ Ext Nope w w' := by
  have hok : FontOK (fun _ => True) w ⟨⟨v, 0, none, 0, 0, none, 0, 0⟩, none, 0, 0, none, 0, 0⟩ [] [] (fun _ => 0) (fun _ => 0) [] [] (fun _ => 0) (fun _ => 0) :=
    ⟨⟨Rd.empty _, Rd.empty _, fun _ _ _ _ => Checks.none, fun _ _ _ _ => Checks.none⟩, Rd.empty _, Rd.empty _, fun _ _ _ _ => Checks.none, fun _ _ _ _ => Checks.none⟩
  refine (font_check hok).mono ?_
  rintro e w' ⟨rfl, e1⟩
  refine ⟨congrArg (fun z => Ending.returned (Value.int .i64 z)) ?_, e1⟩
  simp [fontErr, coreErr, headErr, firstE, hv]
theorem nl_e (v A : Int) : ∀ l ∈ [joinB 32 [k_font, n_a, num v], joinB 32 [k_glyph, num A]], (10 : UInt8) ∉ l.data.toList := by
  intro l hl
  simp only [List.mem_cons, List.not_mem_nil, or_false] at hl
  rcases hl with rfl | rfl <;> refine join_nl fun p hp => ?_ <;> (simp only [List.mem_cons, List.not_mem_nil, or_false] at hp)
  · rcases hp with rfl | rfl | rfl <;> first | decide | exact num_nl _
  · rcases hp with rfl | rfl <;> first | decide | exact num_nl _
abbrev plainG (A : Int) (prog : List (Int × Int)) : GlyphA := ⟨[], [], ⟨0, 0, 0⟩, A, [], prog⟩
theorem plain_plain (A : Int) (prog : List (Int × Int)) : Plain (plainG A prog) := ⟨rfl, rfl, rfl⟩
set_option maxHeartbeats 1000000 in
/-- version 0 -/
theorem fails_e {w : World} (G : Glob w) (hg : 11 ≤ w.heap.size) : FailsTo w t_e 0 43 := by
  refine fails_calls (by decide) text_e (fun W e => ?_)
  have hgW := Nat.le_trans hg e.size
  refine (parse_goes (G.ext0 e) hgW (nl_e 0 5) (by simp) ?_ (St := lawSt W 0 5 []) lawSt_ext (fun W e r => ⟨_, r⟩) (fun k l W1 hl hS hE => ?_) (R := fun _ _ err => err = 43) (fun W1 hS hE => ?_)).mono ?_
  · rw [← text_e, semi_size]; decide
  · match k, hl with
    | 0, hl =>
      have hl : joinB 32 [k_font, n_a, num 0] = l := by simpa using hl
      subst hl
      exact step_font ((G.ext0 e).ext0 hE) hgW (by omega) hS
    | 1, hl =>
      have hl : joinB 32 [k_glyph, num 5] = l := by simpa using hl
      subst hl
      exact step_glyph ((G.ext0 e).ext0 hE) hgW (by omega) hS
  · obtain ⟨u, vg, hr, ho⟩ := (show lawSt W 0 5 [] 2 W1 from hS)
    obtain ⟨ag, cg, hvg, _⟩ := own_gen (show W1.ownsRow _ _ _ vg 1 _ from ho)
    subst hvg
    refine ⟨⟨n_a, 0, ⟨none, 0, 0⟩, ⟨none, 0, 0⟩, 0, ⟨none, 0, 0⟩, ⟨none, 0, 0⟩, ⟨none, 0, 0⟩, ⟨#[]⟩, ⟨none, 0, 0⟩, ⟨ag, 1, cg⟩⟩, .string k_glyph, u, 43, hr, rfl, fun W' e' => ?_, rfl⟩
    have hrd := glyph_rd (cont := []) (prog := []) (own_ext ho e' (fun _ _ z => z)) (Rd.empty _) (Rd.empty _) (by unfold i64; omega)
    exact check_one (v := 0) (plain_plain 5 []) (by decide) (by decide) (.inl ⟨rfl, rfl⟩) hrd
  · rintro e1 w' ⟨W1, f, err, h1, rfl, h2, rfl⟩
    exact ⟨rfl, h1.trans h2 (fun b hb z => by have z : b = W.heap.size := z; omega)⟩
set_option maxHeartbeats 1000000 in
/-- no glyphs -/
theorem fails_f {w : World} (G : Glob w) (hg : 11 ≤ w.heap.size) : FailsTo w t_f 0 2 := by
  refine fails_calls (by decide) text_f (fun W e => ?_)
  have hgW := Nat.le_trans hg e.size
  refine (parse_goes (G.ext0 e) hgW (fun l hl => nl_e 1 5 l (by simp only [List.mem_cons, List.not_mem_nil, or_false] at hl ⊢; exact Or.inl hl)) (by simp) ?_ (St := lawSt W 1 5 []) lawSt_ext (fun W e r => ⟨_, r⟩) (fun k l W1 hl hS hE => ?_) (R := fun _ _ err => err = 2) (fun W1 hS hE => ?_)).mono ?_
  · rw [← text_f, semi_size]; decide
  · match k, hl with
    | 0, hl =>
      have hl : joinB 32 [k_font, n_a, num 1] = l := by simpa using hl
      subst hl
      exact step_font ((G.ext0 e).ext0 hE) hgW (by omega) hS
  · obtain ⟨u, hr⟩ := (show lawSt W 1 5 [] 1 W1 from hS)
    exact ⟨⟨n_a, 1, ⟨none, 0, 0⟩, ⟨none, 0, 0⟩, 0, ⟨none, 0, 0⟩, ⟨none, 0, 0⟩, ⟨none, 0, 0⟩, ⟨#[]⟩, ⟨none, 0, 0⟩, ⟨none, 0, 0⟩⟩, .string k_font, u, 2, hr, rfl, fun W' e' => check_none (by decide), rfl⟩
  · rintro e1 w' ⟨W1, f, err, h1, rfl, h2, rfl⟩
    exact ⟨rfl, h1.trans h2 (fun b hb z => by have z : b = W.heap.size := z; omega)⟩
def gSt (w : World) : Nat → World → Prop
  | 3, W => ∃ u vg vp, RB W (w.heap.size + 1) (cellsV 1 vg k_program) u ∧ OwnG W (w.heap.size + 2) vg [(.slice none 0 0, 5, vp)] ∧ OwnT 194 W (w.heap.size + 2) vp progB
  | k, W => lawSt w 1 5 [] k W
theorem gSt_ext {w : World} : ∀ k W W', gSt w k W → Ext Nope W W' → gSt w k W'
  | 0, W, W', h, e => lawSt_ext (w := w) (v := 1) (A := 5) (c := []) 0 W W' h e
  | 1, W, W', h, e => lawSt_ext (w := w) (v := 1) (A := 5) (c := []) 1 W W' h e
  | 2, W, W', h, e => lawSt_ext (w := w) (v := 1) (A := 5) (c := []) 2 W W' h e
  | 3, W, W', ⟨u, vg, vp, h, k, p⟩, e => ⟨u, vg, vp, h.ext0 e, own_ext k e (fun _ _ z => z), p.ext0 e⟩
  | n + 4, W, W', h, e => lawSt_ext (w := w) (v := 1) (A := 5) (c := []) (n + 4) W W' h e
set_option maxHeartbeats 1000000 in
/-- a block without an end -/
theorem fails_g {w : World} (G : Glob w) (hg : 11 ≤ w.heap.size) : FailsTo w t_g 0 25 := by
  refine fails_calls (by decide) text_g (fun W e => ?_)
  have hgW := Nat.le_trans hg e.size
  have hok : ∀ x ∈ progB, InsOK x := fun x hx => by
    have : x = (23, 0) := by simpa [progB] using hx
    exact Or.inr (Or.inr this)
  refine (parse_goes (G.ext0 e) hgW (fun l hl => ?_) (by simp) ?_ (St := gSt W) gSt_ext (fun W e r => ⟨_, r⟩) (fun k l W1 hl hS hE => ?_) (R := fun _ _ err => err = 25) (fun W1 hS hE => ?_)).mono ?_
  · simp only [List.mem_cons, List.not_mem_nil, or_false] at hl
    rcases hl with h | h | rfl
    · exact nl_e 1 5 l (by simp [h])
    · exact nl_e 1 5 l (by simp [h])
    · refine join_nl fun p hp => ?_
      rcases List.mem_cons.1 hp with rfl | hp
      · decide
      · exact insWords_not hok (Or.inr rfl) p hp
  · rw [← text_g, semi_size]; decide
  · match k, hl with
    | 0, hl =>
      have hl : joinB 32 [k_font, n_a, num 1] = l := by simpa using hl
      subst hl
      exact step_font (A := 5) ((G.ext0 e).ext0 hE) hgW (by omega) hS
    | 1, hl =>
      have hl : joinB 32 [k_glyph, num 5] = l := by simpa using hl
      subst hl
      exact step_glyph (v := 1) ((G.ext0 e).ext0 hE) hgW (by omega) hS
    | 2, hl =>
      have hl : joinB 32 (k_program :: insWords progB) = l := by simpa using hl
      subst hl
      obtain ⟨u, vg, hr, ho⟩ := (show lawSt W 1 5 [] 2 W1 from hS)
      have hbs : W.heap.size + 2 ≤ W1.heap.size := by have := hr.lt; omega
      refine (line_program ((G.ext0 e).ext0 hE) (base := W.heap.size + 2) (by omega) (by omega) hbs hr (before := k_glyph) rfl (by decide) hok (by decide) (by decide) ?_ (vg := vg) (gs := []) (a := 5) (vc := .slice none 0 0) (vp := .slice none 0 0) rfl ho (by simp)).mono ?_
      · show (joinB 32 (k_program :: insWords progB)).data.size ≤ _
        rw [← Array.length_toList, joinB_list]
        decide
      · rintro e1 w' ⟨rfl, ⟨v, u', hr', ho', hp'⟩, e'⟩
        refine ⟨rfl, ⟨u', vg, v, hr', ho', hp'.mono hbs⟩, e'.mono (fun b z => ?_)⟩
        rcases z with z | z
        · omega
        · have := (World.ownsRow.lt ho b z).1; omega
  · obtain ⟨u, vg, vp, hr, ho, hp⟩ := (show gSt W 3 W1 from hS)
    obtain ⟨ag, cg, hvg, _⟩ := own_gen (show W1.ownsRow _ _ _ vg 1 _ from ho)
    subst hvg
    refine ⟨⟨n_a, 1, ⟨none, 0, 0⟩, ⟨none, 0, 0⟩, 0, ⟨none, 0, 0⟩, ⟨none, 0, 0⟩, ⟨none, 0, 0⟩, ⟨#[]⟩, ⟨none, 0, 0⟩, ⟨ag, 1, cg⟩⟩, .string k_program, u, 25, hr, rfl, fun W' e' => ?_, rfl⟩
    have hrd := glyph_rd (cont := []) (prog := progB) (own_ext ho e' (fun _ _ z => z)) (Rd.empty _) ((hp.ext0 e').rd (fun _ _ => trivial) (fun p hp => by
      have : p = (23, 0) := by simpa [progB] using hp
      rw [this]; unfold i64; omega)) (by unfold i64; omega)
    exact check_one (v := 1) (plain_plain 5 progB) (by decide) (by decide) (.inr (.inr ⟨rfl, rfl⟩)) hrd
  · rintro e1 w' ⟨W1, f, err, h1, rfl, h2, rfl⟩
    exact ⟨rfl, h1.trans h2 (fun b hb z => by have z : b = W.heap.size := z; omega)⟩
end Go.Proofs.YtajebdpalnpjdaaGreatDoor
namespace Go.Proofs.YtajebdpalnpjdaaGreatDoor
open Go.RowKit
attribute [local go_sem] alloc_drewN setCell_drewN

theorem infoCh : (Tryz.prog.info? 104).map (fun i => (i.zero, i.size, i.bytes)) = some (some (.agg #[.int .i64 0, .int .i64 0, .int .i64 0, .slice none 0 0]), 4, 48) := by kernel_rfl
set_option maxRecDepth 100000 in
set_option maxHeartbeats 4000000 in
/-- reader.core of 'char' -/
theorem core_char {w : World} (G : Glob w) {rb : Nat} {B : Nat → Prop} {cs : List Value} (hb : 11 ≤ rb) {x y z : Int} (h : RL w rb B cs [num x, num y, num z]) (hx : -9999999 ≤ x ∧ x ≤ 9999999) (hy : -9999999 ≤ y ∧ y ≤ 9999999) (hz : -9999999 ≤ z ∧ z ≤ 9999999) (hB : ∀ b, B b → b < w.heap.size) (hg : cs[5]? = some (.slice none 0 0)) :
    Calls Tryz.prog 25 #[ptr rb, .string k_char] w fun e w' => e = .returned (.tuple #[]) ∧ ∃ v, RL w' rb B (cs.set 5 v) [] ∧ w'.ownsRow w.heap.size 104 4 v 1 [.int .i64 x, .int .i64 y, .int .i64 z, .slice none 0 0] ∧ Ext (fun b => b = rb) w w' := by
  have HG := toHid G
  have HL := toHid h
  have HC := toHid (show _ ∧ _ from ⟨hg, hB⟩)
  have hlr := h.lt
  obtain ⟨i0, hi, hz0, hz1, hz2⟩ := info_parts infoCh
  have HI := toHid (show _ ∧ _ ∧ _ ∧ _ from ⟨hi, hz0, hz1, hz2⟩)
  have HXYZ := toHid (show _ ∧ _ ∧ _ from ⟨hx, hy, hz⟩)
  clear G h hg hi hz0 hz1 hz2 hx hy hz hB
  go_enter Tryz.func25, Tryz.ntmps25
  go_upto_region 16 with fail
  have e1 : Ext Nope w (w.alloc (.cells #[.func (.func 64) #[] #[]] 136)) := (Ext.refl _ _).alloc _
  have r1 := HL.out.ext0 e1
  have c1 : (w.alloc (.cells #[.func (.func 64) #[] #[]] 136)).cell? ⟨rb, 5, none⟩ = some (.slice none 0 0) := (r1.at (by omega)).1.trans HC.out.1
  have H1 := toHid (show _ ∧ _ ∧ _ from ⟨r1, HG.out.ext0 e1, e1⟩)
  have hxl : w.heap.size < (w.alloc (.cells #[.func (.func 64) #[] #[]] 136)).heap.size := by simp
  clear e1 r1
  generalize w.alloc (.cells #[.func (.func 64) #[] #[]] 136) = w1 at *
  obtain ⟨X, HX⟩ : ∃ X, Hid (w.heap.size = X) := ⟨_, rfl⟩
  rw [HX.out] at hxl ⊢
  refine wp_region_head 17 (fun w' => w'.cell? ⟨rb, 5, none⟩ = some (.slice none 0 0)) (by kernel_rfl) (by kernel_rfl) c1 (fun hO hHeld => ?_)
  have q1 := toHid ((Ext.refl Nope w1).drew)
  generalize w1.drew = w2 at *
  refine wpAnyT_takeD (i := 0) (d := some 115) (v := ?_) hO rfl rfl (by kernel_rfl) (fun _ _ _ h => h) (Or.inl ⟨by rfl, ?_⟩) (by exact hHeld) ?_
  rotate_left
  · intro w' hSw
    go_simp
    try (with_reducible rfl)
  try simp only [Act.put, List.setIfInBounds_toArray, List.set_cons_zero, List.set_cons_succ]
  refine wpAnyT_takeD (i := 1) (d := some 116) (v := ?_) hO rfl rfl (by kernel_rfl) (fun _ _ _ h => h) (Or.inl ⟨by rfl, ?_⟩) (by exact hHeld) ?_
  rotate_left
  · intro w' hSw
    go_simp
    try (with_reducible rfl)
  try simp only [Act.put, List.setIfInBounds_toArray, List.set_cons_zero, List.set_cons_succ]
  refine wpAnyT_takeD (i := 2) (d := some 117) (v := ?_) hO rfl rfl (by kernel_rfl) (fun _ _ _ h => h) (Or.inl ⟨by rfl, ?_⟩) (by exact hHeld) ?_
  rotate_left
  · intro w' hSw
    go_simp
    try (with_reducible rfl)
  try simp only [Act.put, List.setIfInBounds_toArray, List.set_cons_zero, List.set_cons_succ]
  refine wpAnyT_takeD (i := 3) (d := some 118) (v := ?_) hO rfl rfl (by kernel_rfl) (fun _ _ _ h => h) (Or.inl ⟨by rfl, ?_⟩) (by exact hHeld) ?_
  rotate_left
  · intro w' hSw
    go_simp
    try (with_reducible rfl)
  try simp only [Act.put, List.setIfInBounds_toArray, List.set_cons_zero, List.set_cons_succ]
  refine wpAnyT_takeD (i := 4) (d := some 119) (v := ?_) hO rfl rfl (by kernel_rfl) (fun _ _ _ h => h) (Or.inl ⟨by rfl, ?_⟩) (by exact hHeld) ?_
  rotate_left
  · intro w' hSw
    go_simp
    try (with_reducible rfl)
  try simp only [Act.put, List.setIfInBounds_toArray, List.set_cons_zero, List.set_cons_succ]
  refine wpAnyT_takeD (i := 5) (d := some 120) (v := ?_) hO rfl rfl (by kernel_rfl) (fun _ _ _ h => h) (Or.inl ⟨by rfl, ?_⟩) (by exact hHeld) ?_
  rotate_left
  · intro w' hSw
    go_simp
    try (with_reducible rfl)
  try simp only [Act.put, List.setIfInBounds_toArray, List.set_cons_zero, List.set_cons_succ]
  refine wpAnyT_takeD (i := 7) (d := some 122) (v := ?_) hO rfl rfl (by kernel_rfl) (fun _ _ _ h => h) (Or.inl ⟨by rfl, ?_⟩) (by exact hHeld) ?_
  rotate_left
  · intro w' hSw
    go_simp
    try (with_reducible rfl)
  try simp only [Act.put, List.setIfInBounds_toArray, List.set_cons_zero, List.set_cons_succ]
  refine wpAnyT_takeD (i := 9) (d := some 124) (v := ?_) hO rfl rfl (by kernel_rfl) (fun _ _ _ h => h) (Or.inl ⟨by rfl, ?_⟩) (by exact hHeld) ?_
  rotate_left
  · intro w' hSw
    go_simp
    try (with_reducible rfl)
  try simp only [Act.put, List.setIfInBounds_toArray, List.set_cons_zero, List.set_cons_succ]
  refine wpAnyT_takeD (i := 11) (d := some 126) (v := ?_) hO rfl rfl (by kernel_rfl) (fun _ _ _ h => h) (Or.inl ⟨by rfl, ?_⟩) (by exact hHeld) ?_
  rotate_left
  · intro w' hSw
    go_simp
    try (with_reducible rfl)
  try simp only [Act.put, List.setIfInBounds_toArray, List.set_cons_zero, List.set_cons_succ]
  refine wpAnyT_takeD (i := 12) (d := some 127) (v := ?_) hO rfl rfl (by kernel_rfl) (fun _ _ _ h => h) (Or.inl ⟨by rfl, ?_⟩) (by exact hHeld) ?_
  rotate_left
  · intro w' hSw
    go_simp
    try (with_reducible rfl)
  try simp only [Act.put, List.setIfInBounds_toArray, List.set_cons_zero, List.set_cons_succ]
  have H2 := toHid (show _ ∧ _ ∧ _ from ⟨H1.out.1.ext0 q1.out, H1.out.2.1.ext0 q1.out, ext0 H1.out.2.2 q1.out⟩)
  have H2 := toHid (show _ ∧ _ ∧ (Ext (fun b => b = rb) w w2) from ⟨H2.out.1, H2.out.2.1, H2.out.2.2.mono (fun b z => z.elim)⟩)
  clear hHeld H1 q1
  refine wpAnyT_one (i := 6) rfl (by kernel_rfl) (by rfl) (fun K hK => ?_)
  go_simp
  refine (number_ok H2.out.2.1 hb H2.out.1 HXYZ.out.1.1 HXYZ.out.1.2).mono ?_
  rintro e w3 ⟨rfl, r3, e3⟩
  have c3 : w3.cell? ⟨rb, 5, none⟩ = some (.slice none 0 0) := (r3.at (by omega)).1.trans HC.out.1
  have H3 := toHid (show _ ∧ _ ∧ _ from ⟨r3, H2.out.2.1.ext e3 (fun g hg z => by have z : g = rb := z; omega), H2.out.2.2.trans e3 (fun _ _ z => z)⟩)
  clear r3 e3
  try go_simp
  refine hK.out _ _ c3 (fun _ => ?_)
  clear hK K
  try simp only [Act.put, List.setIfInBounds_toArray, List.set_cons_zero, List.set_cons_succ]
  refine wpAnyT_one (i := 8) rfl (by kernel_rfl) (by rfl) (fun K hK => ?_)
  go_simp
  refine (number_ok H3.out.2.1 hb H3.out.1 HXYZ.out.2.1.1 HXYZ.out.2.1.2).mono ?_
  rintro e w4 ⟨rfl, r4, e4⟩
  have c4 : w4.cell? ⟨rb, 5, none⟩ = some (.slice none 0 0) := (r4.at (by omega)).1.trans HC.out.1
  have H4 := toHid (show _ ∧ _ ∧ _ from ⟨r4, H3.out.2.1.ext e4 (fun g hg z => by have z : g = rb := z; omega), H3.out.2.2.trans e4 (fun _ _ z => z)⟩)
  clear r4 e4
  try go_simp
  refine hK.out _ _ c4 (fun _ => ?_)
  clear hK K
  try simp only [Act.put, List.setIfInBounds_toArray, List.set_cons_zero, List.set_cons_succ]
  refine wpAnyT_one (i := 10) rfl (by kernel_rfl) (by rfl) (fun K hK => ?_)
  go_simp
  refine (number_ok H4.out.2.1 hb H4.out.1 HXYZ.out.2.2.1 HXYZ.out.2.2.2).mono ?_
  rintro e w5 ⟨rfl, r5, e5⟩
  have c5 : w5.cell? ⟨rb, 5, none⟩ = some (.slice none 0 0) := (r5.at (by omega)).1.trans HC.out.1
  have H5 := toHid (show _ ∧ _ ∧ _ from ⟨r5, H4.out.2.1.ext e5 (fun g hg z => by have z : g = rb := z; omega), H4.out.2.2.trans e5 (fun _ _ z => z)⟩)
  clear r5 e5
  try go_simp
  refine hK.out _ _ c5 (fun _ => ?_)
  clear hK K
  try simp only [Act.put, List.setIfInBounds_toArray, List.set_cons_zero, List.set_cons_succ]
  refine wpAnyT_one (i := 13) rfl (by kernel_rfl) (by rfl) (fun K hK => ?_)
  go_simp
  refine (list_grows_none H5.out.1).mono ?_
  rintro e w6 ⟨rfl, rfl⟩
  try go_simp
  refine hK.out _ _ c5 (fun _ => ?_)
  clear hK K
  try simp only [Act.put, List.setIfInBounds_toArray, List.set_cons_zero, List.set_cons_succ]
  refine wpAnyT_takeD (i := 14) (d := some 129) (v := ?_) hO rfl rfl (by kernel_rfl) (fun _ _ _ h => h) (Or.inl ⟨by rfl, ?_⟩) (by exact c5) ?_
  rotate_left
  · intro w' hSw
    go_simp
    try (with_reducible rfl)
  try simp only [Act.put, List.setIfInBounds_toArray, List.set_cons_zero, List.set_cons_succ]
  refine wpAnyT_one (i := 15) rfl (by kernel_rfl) (by rfl) (fun K hK => ?_)
  go_simp
  have hlt2 : rb < w5.heap.size := H5.out.1.lt
  have c6 : (w5.alloc (.cells #[.int .i64 x, .int .i64 y, .int .i64 z, .slice none 0 0] 104)).cell? ⟨rb, 5, none⟩ = some (.slice none 0 0) := by
    rw [World.cell?_of_block (w := w5) (heap_alloc_old w5 _ rb hlt2)]; exact c5
  refine hK.out _ _ c6 (fun _ => ?_)
  clear hK K
  try simp only [Act.put, List.setIfInBounds_toArray, List.set_cons_zero, List.set_cons_succ]
  refine wpAnyT_one (i := 16) rfl (by kernel_rfl) (by rfl) (fun K hK => ?_)
  obtain ⟨hi, hz0, hz1, hz2⟩ := HI.out
  have hown : w5.ownsRow w.heap.size 104 4 (.slice none 0 0) 0 [] := World.ownsRow_nil _ _ _ _
  refine wp_append_own _ (.tmp 119) (.tmp 130) 28 rfl w.heap.size 104 i0 _ 4 48 Tryz.underlying28 hi hz0 hz1 hz2 rfl (by decide) _ _ _ rfl (hown.alloc _) ⟨w5.heap.size, 0, none⟩ 1 1 [.int .i64 x, .int .i64 y, .int .i64 z, .slice none 0 0] rfl rfl (blk_at (heap_alloc_new w5 _)) (by intro u hu; simp only [List.mem_cons, List.not_mem_nil, or_false] at hu; rcases hu with rfl | rfl | rfl | rfl <;> rfl) (by unfold maxLen; omega) (by omega) (by have := H5.out.2.2.size; simp; omega) ?_
  intro v' w7 hown7 hgrow0 _
  have hgrow : World.grownBy _ w7 (Value.slice none 0 0).ownBlock := hgrow0
  clear hgrow0
  obtain ⟨av', cv', hv', _⟩ := own_gen hown7
  subst hv'
  have e7 : Ext Nope w5 w7 := Ext.grown ((Ext.refl _ _).alloc _) hgrow (fun g hg _ => by cases hg)
  have r7 := H5.out.1.ext0 e7
  obtain ⟨c7, f7⟩ := r7.at (o := 5) (by omega)
  rw [HC.out.1] at c7
  have H7 := toHid (show _ ∧ _ ∧ _ from ⟨r7, hown7, ext0 H5.out.2.2 e7⟩)
  clear hown7 hgrow e7 r7 hown hi hz0 hz1 hz2 c6
  refine hK.out _ _ c7 (fun _ => ?_)
  clear hK K
  try simp only [Act.put, List.setIfInBounds_toArray, List.set_cons_zero, List.set_cons_succ]
  refine wpAnyT_done (by kernel_rfl) ⟨by kernel_rfl, ?_⟩
  simp only [List.drop_succ_cons, List.drop_zero]
  go_wp2
  go_end0
  have e8 : Ext (fun b => b = rb) w7 (w7.setCell ⟨rb, 5, none⟩ (.slice av' (0 + 1) cv')) := Ext.setCell (S := fun b => b = rb) (Ext.refl _ _) rb 5 (fun _ => rfl) _
  exact ⟨rfl, _, H7.out.1.set (o := 5) (by omega) _, own_ext H7.out.2.1 e8 (fun g hg z => by have := (World.ownsRow.lt H7.out.2.1 g hg).1; have z : g = rb := z; omega), H7.out.2.2.trans e8 (fun _ _ z => z)⟩
end Go.Proofs.YtajebdpalnpjdaaGreatDoor
namespace Go.Proofs.YtajebdpalnpjdaaGreatDoor
open Go.RowKit
attribute [local go_sem] alloc_drewN setCell_drewN

/-- A line 'char A B C' -/
theorem line_char {w : World} (G : Glob w) {rb : Nat} (hb : 11 ≤ rb) {v0 : Value} {cs : List Value} (h : RB w rb cs v0) {before : ByteArray} (hbe : cs[11]? = some (.string before)) (hin : Lib.containsS ((kinds.drop 0).take 6) before = true) {x y z : Int} (hx : -9999999 ≤ x ∧ x ≤ 9999999) (hy : -9999999 ≤ y ∧ y ≤ 9999999) (hz : -9999999 ≤ z ∧ z ≤ 9999999)
    (hg : cs[5]? = some (.slice none 0 0)) :
    Calls Tryz.prog 11 #[ptr rb, .string (joinB 32 [k_char, num x, num y, num z])] w fun e w' => e = .returned (.bool true) ∧ (∃ v u, RB w' rb ((cs.set 5 v).set 11 (.string k_char)) u ∧ w'.ownsRow w.heap.size 104 4 v 1 [.int .i64 x, .int .i64 y, .int .i64 z, .slice none 0 0]) ∧ Ext (fun b => b = rb) w w' := by
  have s1 := num_size (n := x) (by omega) (by omega)
  have s2 := num_size (n := y) (by omega) (by omega)
  have s3 := num_size (n := z) (by omega) (by omega)
  refine (line_good G hb h (kind := k_char) (ws := [num x, num y, num z]) (fun p hp => ?_) ?_ hbe (fl := (kinds.drop 0).take 6) (fun W GW => follows_char GW) hin (isG := false) (by decide)
    (Q := fun W w' => ∃ v, RL w' rb (fun b => w.heap.size < b ∧ b < W.heap.size) (cs.set 5 v) [] ∧ w'.ownsRow W.heap.size 104 4 v 1 [.int .i64 x, .int .i64 y, .int .i64 z, .slice none 0 0] ∧ Ext (fun b => b = rb) W w')
    (fun W e r GW => core_char GW hb r hx hy hz (fun b hB => hB.2) hg)
    (fun W w' e q => by
      obtain ⟨v, q1, q2, q3⟩ := q
      exact ⟨⟨_, _, q1⟩, _, q3, fun z => absurd h.lt (by have z : w.heap.size = rb := z; omega)⟩)).mono ?_
  · simp only [List.mem_cons, List.not_mem_nil, or_false] at hp
    rcases hp with rfl | rfl | rfl | rfl
    · decide
    all_goals exact num_not (by decide) (by decide)
  · have e : (joinB 32 [k_char, num x, num y, num z]).size = 7 + (num x).size + (num y).size + (num z).size := by
      have hh : ∀ b : ByteArray, b.size = b.data.toList.length := fun b => rfl
      rw [hh, hh, hh, hh, joinB_list]
      simp [joinC]
      omega
    omega
  · rintro e w' ⟨rfl, W, w1, eW, ⟨v, q1, q2, q3⟩, hz, e3, hr⟩
    obtain ⟨u, hu⟩ := hr _ _ q1
    refine ⟨rfl, ⟨v, u, hu, own_base (own_ext q2 e3 (fun g hg' z => ?_)) (fun g hg' => Nat.le_trans eW.size (World.ownsRow.lt q2 g hg').1)⟩, ?_⟩
    · rcases z with z | z
      · have := (World.ownsRow.lt q2 g hg').1; have := eW.size; have := h.lt; omega
      · exact own_ne q2 hz (by decide) (by rw [← z]; exact hg')
    · exact (Ext.back eW q3 e3).mono (fun b z => z.elim id id)
theorem ent_chars11 : Enters 154 := enters_of Tryz.func154 (by kernel_rfl) rfl
set_option maxRecDepth 100000 in
set_option maxHeartbeats 2000000 in
/-- What font.chars asks of the char that is met. -/
theorem char_closure {w : World} {f : CV} {bb : Nat} (hz : w.heap[bb]? = some (.cells f.cells 32 (0, 0))) (hc : f.cnt = 1) {A : Nat → Prop} {v : Value} (hv : Rd A w [v] (.l 2 [])) :
    Calls Tryz.prog 152 #[.int .i64 0, .agg #[.int .i64 65, .int .i64 0, .int .i64 30, v], ptr bb] w fun e w' => e = .returned (.int .i64 0) ∧ Ext Nope w w' := by
  have hsz : bb < w.heap.size := lt_of_heap hz
  have HW1 := toHid (fun W => fwithin_calls 65 0 255 W)
  have HW2 := toHid (fun W => fwithin_calls 0 0 0 W)
  have HW3 := toHid (fun W => fwithin_calls 30 0 128 W)
  obtain ⟨ver, cnt, a5, n5, k5, a7, n7, k7⟩ := f
  have hc : cnt = 1 := hc
  subst hc
  have HV := toHid hv
  obtain ⟨av, cv, hv1, _⟩ := hv.len
  subst hv1
  clear hv
  go_enter Tryz.func152, Tryz.ntmps152
  have e1 : Ext Nope w (w.alloc (.cells #[.int .i64 65, .int .i64 0, .int .i64 30, .slice av 0 cv] 104)) := (Ext.refl _ _).alloc _
  have hz1 := (e1.block _ hsz (fun z => z)).trans hz
  obtain ⟨c0, c1, c2, c3, c4, c5, c6, c7, c8⟩ := core_cells hz1
  have H1 := toHid e1
  have HE := toHid (fun W (e : Ext Nope w W) => each_grows (A := A) (w := W) (v := .slice av 0 cv) (xs := []) (caps := #[ptr bb, ptr w.heap.size]) (p := fun _ => 0) ent_chars11 (HV.out.ext0 e) Checks.none)
  clear e1 hz1 hz
  go_wp2_with fail
  refine (HW1.out _).mono ?_
  rintro e w2 ⟨rfl, rfl⟩
  go_wp2_with fail
  go_quiet (fail)
  go_wp2_with fail
  refine (HW2.out _).mono ?_
  rintro e w2 ⟨rfl, rfl⟩
  go_wp2_with fail
  refine (HW3.out _).mono ?_
  rintro e w2 ⟨rfl, rfl⟩
  go_wp2_with fail
  refine (HE.out _ (H1.out.drewN _)).mono ?_
  rintro e w2 ⟨rfl, e2⟩
  have H2 := toHid (ext0 (H1.out.drewN _) e2)
  clear e2
  go_wp2_with fail
  go_ret
  exact ⟨rfl, H2.out⟩
end Go.Proofs.YtajebdpalnpjdaaGreatDoor
