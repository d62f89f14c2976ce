/-
  The lines of the law's fonts: 'font', 'glyph', 'contour'.
  source.Parse of the law's fonts.
  source.Parse of the law's texts.
-/
import Derived.Test.YtajebdpalnpjdaaGreatDoorM12
import Derived.Test.YtajebdpalnpjdaaGreatDoorM13
namespace Go.Proofs.YtajebdpalnpjdaaGreatDoor
open Go.RowKit
attribute [local go_sem] alloc_drewN setCell_drewN

theorem word_a : Word (⟨#[97]⟩ : ByteArray) := ⟨by decide, by decide⟩
theorem ptText_not (p : PtA) : (32 : UInt8) ∉ (ptText p).data.toList := by
  intro h
  have e : (ptCore p).data.toList = (num p.x).data.toList ++ 44 :: (num p.y).data.toList := rfl
  have hcore : (32 : UInt8) ∉ (ptCore p).data.toList := by
    rw [e]
    intro h
    rcases List.mem_append.1 h with h | h
    · exact num_not (by decide) (by decide) h
    · rcases List.mem_cons.1 h with h | h
      · revert h; decide
      · exact num_not (by decide) (by decide) h
  unfold ptText at h
  split at h
  · exact hcore h
  · rcases List.mem_append.1 (by simpa using h : (32 : UInt8) ∈ (ptCore p).data.toList ++ [126]) with h | h
    · exact hcore h
    · revert h; decide
/-- Both the reader's block and the new ones. -/
theorem Ext.back {S : Nat → Prop} {w W w1 w' : World} {rb : Nat} (h1 : Ext (fun b => b = rb) w W) (h2 : Ext S W w1) (h3 : Ext (fun b => b = rb ∨ b = w.heap.size) w1 w') : Ext (fun b => b = rb ∨ S b) w w' :=
  ((h1.mono (fun _ z => Or.inl z)).trans (S := fun b => b = rb ∨ S b) (h2.mono (fun _ z => Or.inr z)) (fun _ _ z => z)).trans h3 (fun b hb z => z.elim (fun z => Or.inl z) (fun z => absurd hb (by omega)))
/-- A line 'font a N' -/
theorem line_font {w : World} (G : Glob w) {rb : Nat} (hb : 11 ≤ rb) {c0 c1 v0 : Value} {cs : List Value} (h : RB w rb (c0 :: c1 :: cs) v0) (hbe : (c0 :: c1 :: cs)[11]? = some (.string k_none)) {n : Int} (h1 : -9999999 ≤ n) (h2 : n ≤ 9999999) :
    Calls Tryz.prog 11 #[ptr rb, .string (joinB 32 [k_font, ⟨#[97]⟩, num n])] w fun e w' => e = .returned (.bool true) ∧ (∃ v, RB w' rb ((.string ⟨#[97]⟩ :: .int .i64 n :: cs).set 11 (.string k_font)) v) ∧ Ext (fun b => b = rb) w w' := by
  have hsz := num_size (n := n) (by omega) (by omega)
  refine (line_good G hb h (kind := k_font) (ws := [⟨#[97]⟩, num n]) (fun p hp => ?_) ?_ hbe (fl := [k_none]) (fun W GW => follows_font GW) (by decide) (isG := false) (by decide)
    (Q := fun W w' => RL w' rb (fun b => w.heap.size < b ∧ b < W.heap.size) (.string ⟨#[97]⟩ :: .int .i64 n :: cs) [] ∧ Ext (fun b => b = rb) W w')
    (fun W e r GW => core_font GW hb r word_a (by decide) h1 h2) (fun W w' e q => ⟨⟨_, _, q.1⟩, _, q.2, fun z => by have z : w.heap.size = rb := z; have := h.lt; omega⟩)).mono ?_
  · simp only [List.mem_cons, List.not_mem_nil, or_false] at hp
    rcases hp with rfl | rfl | rfl
    · decide
    · decide
    · exact num_not (by decide) (by decide)
  · have e : (joinB 32 [k_font, ⟨#[97]⟩, num n]).size = 7 + (num n).size := by
      have hh : ∀ b : ByteArray, b.size = b.data.toList.length := fun b => rfl
      rw [hh, hh, joinB_list]
      simp [joinC]
      omega
    omega
  · rintro e w' ⟨rfl, W, w1, eW, q, _, e3, hr⟩
    refine ⟨rfl, hr _ _ q.1, ?_⟩
    exact (Ext.back eW q.2 e3).mono (fun b z => by rcases z with z | z <;> exact z)
/-- A line 'font a S', where S is no numeral -/
theorem line_font_bad {w : World} (G : Glob w) {rb : Nat} (hb : 11 ≤ rb) {v0 : Value} {cs : List Value} (h : RB w rb cs v0) (hbe : cs[11]? = some (.string k_none)) {s : ByteArray} (hc : (32 : UInt8) ∉ s.data.toList) (hs : s.size ≤ 90000) (hv : ∀ n, Lib.atoiAll s.data.toList = .ok n → i64 n ∧ (num n ≠ s ∨ 9999999 < n.natAbs)) :
    Calls Tryz.prog 11 #[ptr rb, .string (joinB 32 [k_font, ⟨#[97]⟩, s])] w fun e w' => e = .returned (.bool false) ∧ Ext (fun b => b = rb) w w' := by
  refine line_bad G hb h (kind := k_font) (ws := [⟨#[97]⟩, s]) (fun p hp => ?_) ?_ hbe (fl := [k_none]) (fun W GW => follows_font GW) (by decide) (isG := false) (by decide) (T := fun b => b = rb) rfl (fun z => by have z : w.heap.size = rb := z; have := h.lt; omega)
    (fun W e r GW => (core_font_bad GW hb r word_a (by decide) (by omega) hv).mono fun e w' ⟨he, _, hx⟩ => ⟨he, hx⟩)
  · simp only [List.mem_cons, List.not_mem_nil, or_false] at hp
    rcases hp with rfl | rfl | rfl
    · decide
    · decide
    · exact hc
  · have e : (joinB 32 [k_font, ⟨#[97]⟩, s]).size = 7 + s.size := by
      have hh : ∀ b : ByteArray, b.size = b.data.toList.length := fun b => rfl
      rw [hh, hh, joinB_list]
      simp [joinC]
      omega
    omega
/-- What stands before a line 'glyph'. -/
def beforeGlyph : List ByteArray := (kinds.drop 0).take 13
/-- A line 'glyph N' -/
theorem line_glyph {w : World} (G : Glob w) {rb base : Nat} (hb : 11 ≤ rb) (hrb : rb < base) (hbw : base ≤ w.heap.size) {v0 vg : Value} {cs : List Value} (h : RB w rb cs v0) {before : ByteArray} (hbe : cs[11]? = some (.string before)) (hin : Lib.containsS beforeGlyph before = true) {n : Int} (h1 : -9999999 ≤ n) (h2 : n ≤ 9999999)
    {gs : List (Value × Int × Value)} (hg : cs[10]? = some vg) (ho : OwnG w base vg gs) (hl : gs.length ≤ 100000) :
    Calls Tryz.prog 11 #[ptr rb, .string (joinB 32 [k_glyph, num n])] w fun e w' => e = .returned (.bool true) ∧ (∃ vg' v, RB w' rb ((cs.set 10 vg').set 11 (.string k_glyph)) v ∧ OwnG w' base vg' (gs ++ [(.slice none 0 0, n, .slice none 0 0)])) ∧ Ext (fun b => b = rb ∨ vg.ownBlock = some b) w w' := by
  have hsz := num_size (n := n) (by omega) (by omega)
  have hlt : ∀ b, vg.ownBlock = some b → base ≤ b ∧ b < w.heap.size := World.ownsRow.lt ho
  refine (line_good G hb h (kind := k_glyph) (ws := [num n]) (fun p hp => ?_) ?_ hbe (fl := beforeGlyph) (fun W GW => follows_glyph GW) hin (isG := true) (by decide)
    (Q := fun W w' => ∃ vg', RL w' rb (fun b => w.heap.size < b ∧ b < W.heap.size) (cs.set 10 vg') [] ∧ OwnG w' base vg' (gs ++ [(.slice none 0 0, n, .slice none 0 0)]) ∧ Ext (fun b => b = rb ∨ vg.ownBlock = some b) W w')
    (fun W e r GW => by
      rw [if_pos rfl]
      exact glyph_glyph GW hb hrb (Nat.le_trans hbw e.size) r h1 h2 hg (fun b hB z => by have := (hlt b z).2; omega) (own_ext ho e (fun g hg' z => by have := (hlt g hg').1; have z : g = rb := z; omega)) hl)
    (fun W w' e q => by
      obtain ⟨vg', q1, q2, q3⟩ := q
      exact ⟨⟨_, _, q1⟩, _, q3, fun z => z.elim (fun z => absurd h.lt (by omega)) (fun z => absurd (hlt _ z).2 (by omega))⟩)).mono ?_
  · simp only [List.mem_cons, List.not_mem_nil, or_false] at hp
    rcases hp with rfl | rfl
    · decide
    · exact num_not (by decide) (by decide)
  · have e : (joinB 32 [k_glyph, num n]).size = 6 + (num n).size := by
      have hh : ∀ b : ByteArray, b.size = b.data.toList.length := fun b => rfl
      rw [hh, hh, joinB_list]
      simp [joinC]
      omega
    omega
  · rintro e w' ⟨rfl, W, w1, eW, ⟨vg', q1, q2, q3⟩, hz, e3, hr⟩
    obtain ⟨v, hv⟩ := hr _ _ q1
    refine ⟨rfl, ⟨vg', v, hv, own_ext q2 e3 (fun g hg' z => ?_)⟩, ?_⟩
    · rcases z with z | z
      · have := (World.ownsRow.lt q2 g hg').1; omega
      · obtain ⟨_, ⟨rfl, _⟩ | ⟨g1, cap1, cur1, rfl, _, hh1, _⟩⟩ := q2
        · cases hg'
        · have e1 : g1 = g := by simpa [Value.ownBlock] using hg'
          rw [e1, z, hz] at hh1
          simp at hh1
    · exact (Ext.back eW q3 e3).mono (fun b z => z.elim (fun z => Or.inl z) id)
theorem own_ne {w : World} {base E sz n b T : Nat} {v : Value} {xs : List Value} {c : Array Value} {fz : Nat × Nat} (h : w.ownsRow base E sz v n xs) (hz : w.heap[b]? = some (.cells c T fz)) (hE : E ≠ T) : ¬ v.ownBlock = some b := by
  intro hg
  obtain ⟨_, ⟨rfl, _⟩ | ⟨g1, cap1, cur1, rfl, _, hh1, _⟩⟩ := h
  · cases hg
  · have e1 : g1 = b := by simpa [Value.ownBlock] using hg
    rw [e1, hz] at hh1
    simp at hh1
    exact hE hh1.2.1.symm
/-- A line 'contour' -/
theorem line_contour {w : World} (G : Glob w) (hg64 : 11 ≤ w.heap.size) {rb base : Nat} (hb : 11 ≤ rb) (hrb : rb < base) (hbw : base ≤ w.heap.size) {v0 vg vc vp : Value} {cs : List Value} (h : RB w rb cs v0) {before : ByteArray} (hbe : cs[11]? = some (.string before)) (hin : Lib.containsS ((kinds.drop 7).take 2) before = true) {c : List PtA} (hc : ∀ p ∈ c, Pt7 p) (hl : c.length ≤ 100000) (hs : (joinB 32 (k_contour :: c.map ptText)).size ≤ 100000)
    {a : Int} {gs : List (Value × Int × Value)} {cvs : List Value} (hg : cs[10]? = some vg) (ho : OwnG w base vg (gs ++ [(vc, a, vp)])) (hgl : gs.length ≤ 100000) (hk : OwnK w base vc cvs) (hkl : cvs.length ≤ 100000) :
    Calls Tryz.prog 11 #[ptr rb, .string (joinB 32 (k_contour :: c.map ptText))] w fun e w' => e = .returned (.bool true) ∧ (∃ vc' v u, RB w' rb (cs.set 11 (.string k_contour)) u ∧ OwnG w' base vg (gs ++ [(vc', a, vp)]) ∧ OwnK w' base vc' (cvs ++ [v]) ∧ OwnP w' w.heap.size v c) ∧ Ext (fun b => b = rb ∨ vg.ownBlock = some b ∨ vc.ownBlock = some b) w w' := by
  have hlt : ∀ b, vg.ownBlock = some b → base ≤ b ∧ b < w.heap.size := World.ownsRow.lt ho
  have hlt2 : ∀ b, vc.ownBlock = some b → base ≤ b ∧ b < w.heap.size := World.ownsRow.lt hk
  refine (line_good G hb h (kind := k_contour) (ws := c.map ptText) (fun p hp => ?_) hs hbe (fl := (kinds.drop 7).take 2) (fun W GW => follows_contour GW) hin (isG := true) (by decide)
    (Q := fun W w' => ∃ vc' v, RL w' rb (fun b => w.heap.size < b ∧ b < W.heap.size) cs [] ∧ OwnG w' base vg (gs ++ [(vc', a, vp)]) ∧ OwnK w' base vc' (cvs ++ [v]) ∧ OwnP w' W.heap.size v c ∧ Ext (fun b => b = rb ∨ vg.ownBlock = some b ∨ vc.ownBlock = some b) W w')
    (fun W e r GW => by
      rw [if_pos rfl]
      exact glyph_contour GW (Nat.le_trans hg64 e.size) hb hrb (Nat.le_trans hbw e.size) r hc hl hg (fun b hB => ⟨hB.2, fun z => absurd (hlt b z).2 (by omega), fun z => absurd (hlt2 b z).2 (by omega)⟩)
        (own_ext ho e (fun g hg' z => by have := (hlt g hg').1; have z : g = rb := z; omega)) hgl (own_ext hk e (fun g hg' z => by have := (hlt2 g hg').1; have z : g = rb := z; omega)) hkl)
    (fun W w' e q => by
      obtain ⟨vc', v, q1, q2, q3, q4, q5⟩ := q
      exact ⟨⟨_, _, q1⟩, _, q5, fun z => z.elim (fun z => absurd h.lt (by omega)) (fun z => z.elim (fun z => absurd (hlt _ z).2 (by omega)) (fun z => absurd (hlt2 _ z).2 (by omega)))⟩)).mono ?_
  · rcases List.mem_cons.1 hp with rfl | hp
    · decide
    · obtain ⟨q, _, rfl⟩ := List.mem_map.1 hp
      exact ptText_not q
  · rintro e w' ⟨rfl, W, w1, eW, ⟨vc', v, q1, q2, q3, q4, q5⟩, hz, e3, hr⟩
    obtain ⟨u, hu⟩ := hr _ _ q1
    refine ⟨rfl, ⟨vc', v, u, hu, own_ext q2 e3 (fun g hg' z => ?_), own_ext q3 e3 (fun g hg' z => ?_), OwnP.mono (own_ext q4 e3 (fun g hg' z => ?_)) eW.size⟩, ?_⟩
    · rcases z with z | z
      · have := (World.ownsRow.lt q2 g hg').1; omega
      · exact own_ne q2 hz (by decide) (by rw [← z]; exact hg')
    · rcases z with z | z
      · have := (World.ownsRow.lt q3 g hg').1; omega
      · exact own_ne q3 hz (by decide) (by rw [← z]; exact hg')
    · rcases z with z | z
      · have := (World.ownsRow.lt q4 g hg').1; have := eW.size; omega
      · exact own_ne q4 hz (by decide) (by rw [← z]; exact hg')
    · exact (Ext.back eW q5 e3).mono (fun b z => z.elim (fun z => Or.inl z) id)
end Go.Proofs.YtajebdpalnpjdaaGreatDoor
namespace Go.Proofs.YtajebdpalnpjdaaGreatDoor
open Go.RowKit
attribute [local go_sem] alloc_drewN setCell_drewN

/-- The glyph of the law. -/
def lawG (A : Int) (c : List PtA) : GlyphA := ⟨[c], [], ⟨0, 0, 0⟩, A, [], []⟩
/-- A font of one glyph with one contour stands in memory. -/
structure OneGlyph (w : World) (base : Nat) (vg : Value) (A : Int) (c : List PtA) (vc pv : Value) : Prop where
  g : OwnG w base vg [(vc, A, .slice none 0 0)]
  k : OwnK w base vc [pv]
  p : OwnP w base pv c
theorem OneGlyph.rd {w : World} {base : Nat} {vg : Value} {A : Int} {c : List PtA} {vc pv : Value} (h : OneGlyph w base vg A c vc pv) (hA : i64 A) (hi : ∀ p ∈ c, i64 p.x ∧ i64 p.y) : Rd (fun _ => True) w [vg] (.l 8 [glyphD (lawG A c)]) := by
  have hp : Rd (fun _ => True) w [pv] (contourD c) := OwnP.rd h.p (fun _ _ => trivial) hi
  have hk : Rd (fun _ => True) w [vc] (.l 1 [contourD c]) := Rd.own (xs := [contourD c]) h.k (fun _ _ => trivial) fun k x hk => by
    match k, hk with
    | 0, hk => cases hk; exact hp
  refine Rd.own (xs := [glyphD (lawG A c)]) h.g (fun _ _ => trivial) fun k x hk' => ?_
  match k, hk' with
  | 0, hk' =>
    cases hk'
    exact Rd.mk1 hk (Rd.mk1 (Rd.empty 3) (Rd.mk1 (Rd.int 0 (by unfold i64; omega)) (Rd.mk1 (Rd.int 0 (by unfold i64; omega)) (Rd.mk1 (Rd.int 0 (by unfold i64; omega)) (Rd.mk1 (Rd.int A hA) (Rd.mk1 (Rd.empty _) (Rd.mk1 (Rd.empty 2) Rd.ends)))))))
theorem OneGlyph.ext {S : Nat → Prop} {w w' : World} {base : Nat} {vg : Value} {A : Int} {c : List PtA} {vc pv : Value} (h : OneGlyph w base vg A c vc pv) (e : Ext S w w') (hS : ∀ b, base ≤ b → ¬ S b) : OneGlyph w' base vg A c vc pv :=
  ⟨own_ext h.g e (fun g hg => hS g (World.ownsRow.lt h.g g hg).1), own_ext h.k e (fun g hg => hS g (World.ownsRow.lt h.k g hg).1), own_ext h.p e (fun g hg => hS g (World.ownsRow.lt h.p g hg).1)⟩
def lawErr (v A : Int) (c : List PtA) : Int := if ¬ (1 ≤ v ∧ v ≤ 999) then 43 else glyphErr (lawG A c)
def cellsV (v : Int) (vg : Value) (k : ByteArray) : List Value := [.string n_a, .int .i64 v, .slice none 0 0, .slice none 0 0, .int .i64 0, .slice none 0 0, .slice none 0 0, .slice none 0 0, .string ⟨#[]⟩, .slice none 0 0, vg, .string k]
abbrev lawT (v : Int) (ag : Option Addr) (cg : Nat) : TV := ⟨⟨v, 1, none, 0, 0, none, 0, 0⟩, none, 0, 0, ag, 1, cg⟩
/-- font.Check of the law's font -/
theorem law_check {w : World} {base : Nat} {ag : Option Addr} {cg : Nat} {v A : Int} {c : List PtA} {vc pv : Value} (h : OneGlyph w base (.slice ag 1 cg) A c vc pv) (hA : i64 A) (hi : ∀ p ∈ c, i64 p.x ∧ i64 p.y) (hl : c.length ≤ 1000) :
    Calls Tryz.prog 13 #[.agg (lawT v ag cg).cells] w fun e w' => e = .returned (.int .i64 (lawErr v A c)) ∧ Ext Nope w w' := by
  have hok : FontOK (fun _ => True) w (lawT v ag cg) [] [] (fun _ => 0) (fun _ => 0) [] [glyphD (lawG A c)] (fun _ => 0) (fun _ => glyphErr (lawG A c)) := by
    refine ⟨⟨Rd.empty _, Rd.empty _, fun _ _ _ _ => Checks.none, fun _ _ _ _ => Checks.none⟩, Rd.empty _, h.rd hA hi, fun _ _ _ _ => Checks.none, fun W bb e hz => ?_⟩
    intro k W' u hk e' hu
    obtain ⟨x, cs, rfl, hx, hr⟩ := hu
    have hk0 : k = 0 := Nat.lt_one_iff.1 hk
    subst hk0
    have hx : glyphD (lawG A c) = x := by simpa using hx
    subst hx
    have hP : ∀ W1, Ext Nope W' W1 → Calls Tryz.prog 35 #[.agg cs.toArray, .int .i64 0] W1 fun e w' => e = .returned (.int .i64 0) ∧ Ext Nope W1 w' := fun W1 e1 => by
      obtain ⟨v0, v1, v6, v7, rfl, h0, h1, h5, h6, h7⟩ := hr.glyph
      obtain ⟨a7, cap7, hv7, _⟩ := h7.len
      subst hv7
      exact proved_none v0 v1 _ _ _ _ v6 a7 cap7 (h0.one v0 (by simp)) (h1.one v1 (by simp)) (h6.one v6 (by simp)) 0
    refine (glyph_closure (t := lawT v ag cg) ((e'.block _ (lt_of_heap hz) (fun z => z)).trans hz) ⟨rfl, rfl, rfl⟩ hr (by simp [lawG, sumL]; omega) (by simp [lawG]) 0 (pe := 0) hP).mono ?_
    rintro e2 w2 ⟨rfl, e3⟩
    refine ⟨congrArg (fun z => Ending.returned (Value.int .i64 z)) ?_, e3⟩
    by_cases hg : glyphErr (lawG A c) = 0 <;> simp [hg]
  refine (font_check hok).mono ?_
  rintro e w' ⟨rfl, e1⟩
  refine ⟨congrArg (fun z => Ending.returned (Value.int .i64 z)) ?_, e1⟩
  simp only [fontErr, coreErr, headErr, lawErr, firstE, List.length_nil, List.length_cons]
  by_cases hv : 1 ≤ v ∧ v ≤ 999 <;> simp [hv]
end Go.Proofs.YtajebdpalnpjdaaGreatDoor
namespace Go.Proofs.YtajebdpalnpjdaaGreatDoor
open Go.RowKit
attribute [local go_sem] alloc_drewN setCell_drewN

def lawLines (v A : Int) (c : List PtA) : List ByteArray := [joinB 32 [k_font, n_a, num v], joinB 32 [k_glyph, num A], joinB 32 (k_contour :: c.map ptText)]
def lawSt (w : World) (v A : Int) (c : List PtA) : Nat → World → Prop
  | 0, W => ∃ u, RB W (w.heap.size + 1) cells0 u
  | 1, W => ∃ u, RB W (w.heap.size + 1) (cellsV v (.slice none 0 0) k_font) u
  | 2, W => ∃ u vg, RB W (w.heap.size + 1) (cellsV v vg k_glyph) u ∧ OwnG W (w.heap.size + 2) vg [(.slice none 0 0, A, .slice none 0 0)]
  | 3, W => ∃ u vg vc pv, RB W (w.heap.size + 1) (cellsV v vg k_contour) u ∧ OneGlyph W (w.heap.size + 2) vg A c vc pv
  | _, _ => False
theorem RB.ext0 {w w' : World} {rb : Nat} {cs : List Value} {v : Value} (h : RB w rb cs v) (e : Ext Nope w w') : RB w' rb cs v := h.ext e (fun z => z)
theorem lawSt_ext {w : World} {v A : Int} {c : List PtA} : ∀ k W W', lawSt w v A c k W → Ext Nope W W' → lawSt w v A c k W'
  | 0, W, W', ⟨u, h⟩, e => ⟨u, h.ext0 e⟩
  | 1, W, W', ⟨u, h⟩, e => ⟨u, h.ext0 e⟩
  | 2, W, W', ⟨u, vg, h, k⟩, e => ⟨u, vg, h.ext0 e, own_ext k e (fun _ _ z => z)⟩
  | 3, W, W', ⟨u, vg, vc, pv, h, k⟩, e => ⟨u, vg, vc, pv, h.ext0 e, k.ext e (fun _ _ z => z)⟩
  | _ + 4, _, _, h, _ => h.elim
/-- The law's font, as it was read. -/
def LawFont (w : World) (v A : Int) (c : List PtA) (W : World) (f : FV) (err : Int) : Prop := err = lawErr v A c ∧ ∃ ag cg vc pv, f = ⟨n_a, v, ⟨none, 0, 0⟩, ⟨none, 0, 0⟩, 1, ⟨none, 0, 0⟩, ⟨none, 0, 0⟩, ⟨none, 0, 0⟩, ⟨#[]⟩, ⟨none, 0, 0⟩, ⟨ag, 1, cg⟩⟩ ∧ OneGlyph W (w.heap.size + 2) (.slice ag 1 cg) A c vc pv
set_option maxHeartbeats 1000000 in
theorem parse_law {w : World} (G : Glob w) (hg : 11 ≤ w.heap.size) {v A : Int} {c : List PtA} (hv : -9999999 ≤ v ∧ v ≤ 9999999) (hA : -9999999 ≤ A ∧ A ≤ 9999999) (hc : ∀ p ∈ c, Pt7 p) (hl : c.length ≤ 1000) (hcs : (joinB 32 (k_contour :: c.map ptText)).size ≤ 50000) (hcn : (10 : UInt8) ∉ (joinB 32 (k_contour :: c.map ptText)).data.toList) :
    Calls Tryz.prog 6 #[.string (textB (lawLines v A c) ⟨#[]⟩)] w fun e w' => ∃ W f err, Ext Nope w W ∧ LawFont w v A c W f err ∧ Ext (fun b => b = w.heap.size) W w' ∧ e = .returned (.tuple #[if err = 0 then FV.val f else noFont, .int .i64 0, .int .i64 err]) := by
  have hz1 := num_size (n := v) (by omega) (by omega)
  have hz2 := num_size (n := A) (by omega) (by omega)
  have hb1 : (joinB 32 [k_font, n_a, num v]).size = 7 + (num v).size := by
    have hh : ∀ b : ByteArray, b.size = b.data.toList.length := fun b => rfl
    rw [hh, hh, joinB_list]
    simp [joinC]
    omega
  have hb2 : (joinB 32 [k_glyph, num A]).size = 6 + (num A).size := by
    have hh : ∀ b : ByteArray, b.size = b.data.toList.length := fun b => rfl
    rw [hh, hh, joinB_list]
    simp [joinC]
    omega
  refine parse_goes G hg (fun l hl => ?_) (by simp [lawLines]) ?_ lawSt_ext (fun W e r => ⟨_, r⟩) (St := lawSt w v A c) ?_ (R := LawFont w v A c) ?_
  · simp only [lawLines, List.mem_cons, List.not_mem_nil, or_false] at hl
    rcases hl with rfl | rfl | rfl
    · intro h
      have e : (joinB 32 [k_font, n_a, num v]).data.toList = [102, 111, 110, 116, 32, 97, 32] ++ (num v).data.toList := by rw [joinB_list]; simp [joinC]
      rw [e] at h
      rcases List.mem_append.1 h with h | h
      · revert h; decide
      · exact num_not (by decide) (by decide) h
    · intro h
      have e : (joinB 32 [k_glyph, num A]).data.toList = [103, 108, 121, 112, 104, 32] ++ (num A).data.toList := by rw [joinB_list]; simp [joinC]
      rw [e] at h
      rcases List.mem_append.1 h with h | h
      · revert h; decide
      · exact num_not (by decide) (by decide) h
    · exact hcn
  · rw [lawLines, textB_size, textB_size, textB_size, textB_nil, hb1, hb2]
    have : (⟨#[]⟩ : ByteArray).size = 0 := rfl
    omega
  · intro k l W hk hSt hE
    have GW := G.ext0 hE
    match k, hk, hSt with
    | 0, hk, ⟨u, hr⟩ =>
      have hk : joinB 32 [k_font, n_a, num v] = l := by simpa [lawLines] using hk
      subst hk
      refine (line_font GW (by omega) hr rfl hv.1 hv.2).mono ?_
      rintro e w' ⟨rfl, ⟨u', hr'⟩, e'⟩
      exact ⟨rfl, ⟨u', hr'⟩, e'.mono (fun b z => by have z : b = w.heap.size + 1 := z; omega)⟩
    | 1, hk, ⟨u, hr⟩ =>
      have hk : joinB 32 [k_glyph, num A] = l := by simpa [lawLines] using hk
      subst hk
      refine (line_glyph GW (base := w.heap.size + 2) (by omega) (by omega) (by have := hr.lt; omega) hr (before := k_font) rfl (by decide) hA.1 hA.2 (vg := .slice none 0 0) (gs := []) rfl ⟨rfl, .inl ⟨rfl, rfl⟩⟩ (by simp)).mono ?_
      rintro e w' ⟨rfl, ⟨vg', u', hr', ho'⟩, e'⟩
      exact ⟨rfl, ⟨u', vg', hr', ho'⟩, e'.mono (fun b z => z.elim (fun z => by omega) (fun z => by simp [Value.ownBlock] at z))⟩
    | 2, hk, ⟨u, vg, hr, ho⟩ =>
      have hk : joinB 32 (k_contour :: c.map ptText) = l := by simpa [lawLines] using hk
      subst hk
      have hbs : w.heap.size + 2 ≤ W.heap.size := by have := hr.lt; omega
      refine (line_contour GW (Nat.le_trans hg hE.size) (base := w.heap.size + 2) (by omega) (by omega) hbs hr (before := k_glyph) rfl (by decide) hc (by omega) (by omega) (vg := vg) (gs := []) (cvs := []) rfl ho (by simp) ⟨rfl, .inl ⟨rfl, rfl⟩⟩ (by simp)).mono ?_
      rintro e w' ⟨rfl, ⟨vc', pv, u', hr', ho', hk', hp'⟩, e'⟩
      refine ⟨rfl, ⟨u', vg, vc', pv, hr', ho', hk', OwnP.mono hp' hbs⟩, e'.mono (fun b z => ?_)⟩
      rcases z with z | z | z
      · omega
      · have := (World.ownsRow.lt ho b z).1; omega
      · simp [Value.ownBlock] at z
    | k + 3, hk, _ => simp [lawLines] at hk
  · intro W hSt hE
    obtain ⟨u, vg, vc, pv, hr, ho⟩ := (show lawSt w v A c 3 W from hSt)
    obtain ⟨ag, cg, hvg, _⟩ := own_gen (show W.ownsRow _ _ _ vg 1 _ from ho.g)
    subst hvg
    refine ⟨⟨n_a, v, ⟨none, 0, 0⟩, ⟨none, 0, 0⟩, 0, ⟨none, 0, 0⟩, ⟨none, 0, 0⟩, ⟨none, 0, 0⟩, ⟨#[]⟩, ⟨none, 0, 0⟩, ⟨ag, 1, cg⟩⟩, .string k_contour, u, lawErr v A c, hr, rfl, fun W' e' => ?_, rfl, ag, cg, vc, pv, rfl, ho⟩
    exact law_check (ho.ext e' (fun _ _ z => z)) (by unfold i64; omega) (fun p hp => by have := hc p hp; unfold Pt7 at this; unfold i64; omega) hl
end Go.Proofs.YtajebdpalnpjdaaGreatDoor
