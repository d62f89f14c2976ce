/-
  source.Parse of sanity's second text.
  The law's 'again', of the second text.
  The law's sanity.
-/
import Derived.Test.YtajebdpalnpjdaaGreatDoorM40
import Derived.Test.YtajebdpalnpjdaaGreatDoorM16
namespace Go.Proofs.YtajebdpalnpjdaaGreatDoor
open Go.RowKit
attribute [local go_sem] alloc_drewN setCell_drewN

/-- What is read of the second text. -/
def Two (w W : World) (f : FV) (err : Int) : Prop := err = 0 ∧ FontAt (fun b => w.heap.size < b) W f f_2 ∧ ∃ ah ch al cl ag cg, f = ⟨n_a, 1, ⟨none, 0, 0⟩, ⟨none, 0, 0⟩, 2, ⟨none, 0, 0⟩, ⟨none, 0, 0⟩, ⟨ah, 2, ch⟩, ⟨#[]⟩, ⟨al, 2, cl⟩, ⟨ag, 2, cg⟩⟩ ∧
  Rd (fun b => w.heap.size < b) W [.slice ah 2 ch] (.l 2 (heads_2.map headD)) ∧ Rd (fun b => w.heap.size < b) W [.slice al 2 cl] (.l 1 (looks_2.map lookupD)) ∧ Rd (fun b => w.heap.size < b) W [.slice ag 2 cg] (.l 8 (glyphs_2.map glyphD))
def StB (w : World) : Nat → World → Prop
  | 0, W => ∃ u, RB W (w.heap.size + 1) cells0 u
  | 1, W => LSt w W k_font [] [] []
  | 2, W => LSt w W k_lookup [5] [[]] []
  | 3, W => LSt w W k_rule [5] [[r_1]] []
  | 4, W => LSt w W k_rule [5] [[r_1, r_2]] []
  | 5, W => LSt w W k_lookup [5, 9] [[r_1, r_2], []] []
  | 6, W => LSt w W k_rule [5, 9] [[r_1, r_2], [r_3]] []
  | 7, W => LSt w W k_glyph [5, 9] [[r_1, r_2], [r_3]] [1]
  | 8, W => LSt w W k_glyph [5, 9] [[r_1, r_2], [r_3]] [1, 2]
  | _, _ => False
theorem StB_ext {w : World} : ∀ k W W', StB w k W → Ext Nope W W' → StB w k W'
  | 0, W, W', ⟨u, h⟩, e => ⟨u, h.ext0 e⟩
  | 1, W, W', h, e => LSt.ext0 h e
  | 2, W, W', h, e => LSt.ext0 h e
  | 3, W, W', h, e => LSt.ext0 h e
  | 4, W, W', h, e => LSt.ext0 h e
  | 5, W, W', h, e => LSt.ext0 h e
  | 6, W, W', h, e => LSt.ext0 h e
  | 7, W, W', h, e => LSt.ext0 h e
  | 8, W, W', h, e => LSt.ext0 h e
  | _ + 9, _, _, h, _ => h.elim
theorem lines_2_nl : ∀ l ∈ lines_2, (10 : UInt8) ∉ l.data.toList := by
  intro l hl
  have two : ∀ {a b : ByteArray}, (10 : UInt8) ∉ a.data.toList → (10 : UInt8) ∉ b.data.toList → (10 : UInt8) ∉ (joinB 32 [a, b]).data.toList := fun h1 h2 => join_nl fun p hp => by
    simp only [List.mem_cons, List.not_mem_nil, or_false] at hp
    rcases hp with rfl | rfl
    · exact h1
    · exact h2
  simp only [List.mem_cons, List.not_mem_nil, or_false] at hl
  rcases hl with rfl | rfl | rfl | rfl | rfl | rfl | rfl | rfl
  · refine join_nl fun p hp => ?_
    simp only [List.mem_cons, List.not_mem_nil, or_false] at hp
    rcases hp with rfl | rfl | rfl <;> first | decide | exact num_nl _
  · exact two (by decide) (num_nl _)
  · rw [line_r1]; decide
  · rw [line_r2]; decide
  · exact two (by decide) (num_nl _)
  · rw [line_r3]; decide
  · exact two (by decide) (num_nl _)
  · exact two (by decide) (num_nl _)
theorem size_of_list {b : ByteArray} {l : List UInt8} (h : b.data.toList = l) (hl : l.length ≤ 100000) : b.size ≤ 100000 := by
  have : b.size = b.data.toList.length := by show b.data.size = _; simp
  rw [this, h]
  exact hl
theorem two_of {us : List Value} (h : us.length = 2) : ∃ a b, us = [a, b] := by
  match us, h with
  | [a, b], _ => exact ⟨a, b, rfl⟩
/-- The heads, their first glyphs filled in. -/
theorem heads_rd {A : Nat → Prop} {W : World} {base lo : Nat} {v u0 u1 : Value} (h : OwnH W base v (hFill [5, 9] [u0, u1])) (h0 : OwnI W lo u0 [0, 1]) (h1 : OwnI W lo u1 [1]) (hA : ∀ b, base ≤ b → A b) (hA2 : ∀ b, lo ≤ b → A b) : Rd A W [v] (.l 2 (heads_2.map headD)) := by
  refine Rd.own (xs := heads_2.map headD) h (fun g hg => hA g (World.ownsRow.lt h g hg).1) fun k x hk => ?_
  match k, hk with
  | 0, hk =>
    cases hk
    exact Rd.mk1 (Rd.int 5 (by unfold i64; omega)) (Rd.mk1 (h0.rd hA2 (by intro n hn; simp at hn; unfold i64; omega)) Rd.ends)
  | 1, hk =>
    cases hk
    exact Rd.mk1 (Rd.int 9 (by unfold i64; omega)) (Rd.mk1 (h1.rd hA2 (by intro n hn; simp at hn; unfold i64; omega)) Rd.ends)
  | k + 2, hk => simp [heads_2] at hk
theorem glyphs_rd2 {A : Nat → Prop} {W : World} {base : Nat} {v : Value} (h : OwnG W base v ([1, 2].map fun n => (Value.slice none 0 0, n, Value.slice none 0 0))) (hA : ∀ g, v.ownBlock = some g → A g) : Rd A W [v] (.l 8 (glyphs_2.map glyphD)) := by
  refine Rd.own (xs := glyphs_2.map glyphD) h hA fun k x hk => ?_
  have row : ∀ n : Int, i64 n → Rd A W [.slice none 0 0, .slice none 0 0, .int .i64 0, .int .i64 0, .int .i64 0, .int .i64 n, .slice none 0 0, .slice none 0 0] (glyphD ⟨[], [], ⟨0, 0, 0⟩, n, [], []⟩) := fun n hn =>
    Rd.mk1 (Rd.empty 1) (Rd.mk1 (Rd.empty 3) (Rd.mk1 (Rd.int 0 (by unfold i64; omega)) (Rd.mk1 (Rd.int 0 (by unfold i64; omega)) (Rd.mk1 (Rd.int 0 (by unfold i64; omega)) (Rd.mk1 (Rd.int n hn) (Rd.mk1 (Rd.empty 3) (Rd.mk1 (Rd.empty 2) Rd.ends)))))))
  match k, hk with
  | 0, hk => cases hk; exact row 1 (by unfold i64; omega)
  | 1, hk => cases hk; exact row 2 (by unfold i64; omega)
  | k + 2, hk => simp [glyphs_2] at hk
set_option maxHeartbeats 2000000 in
/-- source.Parse of the second text -/
theorem parse_2 {w : World} (G : Glob w) (hg : 11 ≤ w.heap.size) : Parses w (semi t_2) f_2 := by
  unfold Parses
  rw [text_2]
  refine (parse_goes2 G hg lines_2_nl (by simp) ?_ (St := StB w) StB_ext (fun W e r => ⟨_, r⟩) (fun k l W1 hl hS hE => ?_) (R := Two w) (fun W1 hS hE => ?_)).mono ?_
  · rw [← text_2, semi_size]; decide
  · have GW := G.ext0 hE
    match k, hl with
    | 0, hl =>
      have hl : joinB 32 [k_font, n_a, num 1] = l := by simpa using hl
      subst hl
      obtain ⟨u, hr⟩ := hS
      refine (line_font GW (by omega) hr rfl (by omega) (by omega)).mono ?_
      rintro e w' ⟨rfl, ⟨u', hr'⟩, e'⟩
      refine ⟨rfl, ⟨u', .slice none 0 0, .slice none 0 0, .slice none 0 0, [], w.heap.size + 2, hr', ⟨rfl, .inl ⟨rfl, rfl⟩⟩, ⟨rfl, .inl ⟨rfl, rfl⟩⟩, ⟨rfl, .inl ⟨rfl, rfl⟩⟩, Nat.le_refl _, ?_, ⟨rfl, fun i v rs h => by simp at h, fun i v g h => by simp at h, fun i v g h => by simp at h⟩⟩, e'.mono (fun b z => by have z : b = w.heap.size + 1 := z; omega)⟩
      have := hr'.lt
      omega
    | 1, hl =>
      have hl : joinB 32 [k_lookup, num 5] = l := by simpa using hl
      subst hl
      exact step_lk GW hg (show LSt w W1 k_font [] [] [] from hS) (by decide) (by decide) (by decide) (by omega) (by omega)
    | 2, hl =>
      have hl : joinB 32 (k_rule :: ruleW r_1) = l := by simpa using hl
      subst hl
      exact step_rl (rss := []) (rs := []) GW hg (show LSt w W1 k_lookup [5] [[]] [] from hS) (by decide) (by decide) (by decide) ruleR_1 (size_of_list line_r1 (by decide))
    | 3, hl =>
      have hl : joinB 32 (k_rule :: ruleW r_2) = l := by simpa using hl
      subst hl
      exact step_rl (rss := []) (rs := [r_1]) GW hg (show LSt w W1 k_rule [5] [[r_1]] [] from hS) (by decide) (by decide) (by simp) ruleR_2 (size_of_list line_r2 (by decide))
    | 4, hl =>
      have hl : joinB 32 [k_lookup, num 9] = l := by simpa using hl
      subst hl
      exact step_lk GW hg (show LSt w W1 k_rule [5] [[r_1, r_2]] [] from hS) (by decide) (by decide) (by simp) (by omega) (by omega)
    | 5, hl =>
      have hl : joinB 32 (k_rule :: ruleW r_3) = l := by simpa using hl
      subst hl
      exact step_rl (rss := [[r_1, r_2]]) (rs := []) GW hg (show LSt w W1 k_lookup [5, 9] [[r_1, r_2], []] [] from hS) (by decide) (by simp) (by simp) ruleR_3 (size_of_list line_r3 (by decide))
    | 6, hl =>
      have hl : joinB 32 [k_glyph, num 1] = l := by simpa using hl
      subst hl
      exact step_gl GW hg (show LSt w W1 k_rule [5, 9] [[r_1, r_2], [r_3]] [] from hS) (by decide) (by decide) (by omega) (by omega)
    | 7, hl =>
      have hl : joinB 32 [k_glyph, num 2] = l := by simpa using hl
      subst hl
      exact step_gl GW hg (show LSt w W1 k_glyph [5, 9] [[r_1, r_2], [r_3]] [1] from hS) (by decide) (by decide) (by omega) (by omega)
    | k + 8, hl => simp at hl
  · obtain ⟨u, vh, vL, vg, ls, B, q1, q2, q3, q4, q5, q6, q7⟩ := (show LSt w W1 k_glyph [5, 9] [[r_1, r_2], [r_3]] [1, 2] from hS)
    have hl2 : ls.length = 2 := q7.len
    obtain ⟨ah, ch, hvh, _, _, hgh⟩ := own_gen (show W1.ownsRow _ _ _ vh 2 _ from q2)
    obtain ⟨bh, rfl⟩ := hgh (by omega)
    obtain ⟨al, cl, hvl, _, _, hgl⟩ := own_gen (show W1.ownsRow _ _ _ vL ls.length _ from q3)
    obtain ⟨bl, rfl⟩ := hgl (by omega)
    obtain ⟨ag, cg, hvg, _⟩ := own_gen (show W1.ownsRow _ _ _ vg 2 _ from q4)
    rw [hl2] at hvl
    subst hvh hvl hvg
    have hbh : w.heap.size + 2 ≤ bh ∧ bh < W1.heap.size := World.ownsRow.lt q2 bh (by simp [Value.ownBlock])
    -- what is inner is not the heads' block
    have inner : ∀ (b : Nat) (cs : Array Value) (T : Nat) (fz : Nat × Nat), w.heap.size + 2 ≤ b → W1.heap[b]? = some (.cells cs T fz) → Inner T → w.heap.size < b ∧ b ≠ bh := fun b cs T fz hb hbb hT => ⟨by omega, fun z => by
      subst z
      exact own_typed q2 hbb (fun z => by rcases hT with h | h | h | h <;> (rw [h] at z; revert z; decide)) (by simp [Value.ownBlock])⟩
    have hRR : ∀ (i : Nat) (rs : List RuleA), looks_2[i]? = some rs → ∀ r ∈ rs, RuleR r := fun i rs h => rulesR_2 rs (List.mem_of_getElem? h)
    have lookRd : ∀ (i : Nat) (v : Value) (rs : List RuleA), ls[i]? = some v → looks_2[i]? = some rs → Rd (fun b => w.heap.size < b ∧ b ≠ bh) W1 [v] (rulesD rs) := fun i v rs hv hr => (q7.each i v rs hv hr).rd (hRR i rs hr) inner
    have looks : Rd (fun b => w.heap.size < b ∧ b ≠ bh) W1 [.slice (some ⟨bl, 0, none⟩) 2 cl] (.l 1 (looks_2.map lookupD)) := by
      refine Rd.cells_own (us := ls) (xs := looks_2.map lookupD) (show W1.ownsRow _ _ _ _ ls.length _ from q3) (by rw [hl2]; rfl) (fun g hg => ⟨by have := (World.ownsRow.lt q3 g hg).1; omega, fun z => own_apart q3 q2 (by decide) g hg (by rw [z]; simp [Value.ownBlock])⟩) fun k x hk => ?_
      rw [List.getElem?_map] at hk
      obtain ⟨rs, hrs, rfl⟩ := Option.map_eq_some_iff.1 hk
      have hkl : k < ls.length := by rw [hl2]; exact (List.getElem?_eq_some_iff.1 hrs).1
      exact ⟨ls[k], List.getElem?_eq_getElem hkl, Rd.mk1 (lookRd k _ rs (List.getElem?_eq_getElem hkl) hrs) Rd.ends⟩
    have glyphs : Rd (fun b => w.heap.size < b ∧ b ≠ bh) W1 [.slice ag 2 cg] (.l 8 (glyphs_2.map glyphD)) := glyphs_rd2 q4 (fun g hg => ⟨by have := (World.ownsRow.lt q4 g hg).1; omega, fun z => own_apart q4 q2 (by decide) g hg (by rw [z]; simp [Value.ownBlock])⟩)
    refine ⟨⟨n_a, 1, ⟨none, 0, 0⟩, ⟨none, 0, 0⟩, 0, ⟨none, 0, 0⟩, ⟨none, 0, 0⟩, ⟨some ⟨bh, 0, none⟩, 2, ch⟩, ⟨#[]⟩, ⟨some ⟨bl, 0, none⟩, 2, cl⟩, ⟨ag, 2, cg⟩⟩, .string k_glyph, u, 0, 2, w.heap.size + 2, bh, bl, [5, 9], ls, fun i => firstRaw (looks_2.getD i []), q1, ?_⟩
    refine ⟨rfl, rfl, rfl, rfl, by omega, by omega, rfl, hl2, q2, q3, fun i v hv => ?_, fun W' us e hO hul hus => ?_⟩
    · have hil : i < 2 := by rw [← hl2]; exact (List.getElem?_eq_some_iff.1 hv).1
      match i, hil with
      | 0, _ =>
        refine ⟨(q7.each 0 v [r_1, r_2] hv rfl).slice, fun W' e => ?_⟩
        exact first_calls ((lookRd 0 v [r_1, r_2] hv rfl).ext e (fun b hb z => hb.2 z)) in_12 (show Incr [0, 1] from incr_01) (by decide)
      | 1, _ =>
        refine ⟨(q7.each 1 v [r_3] hv rfl).slice, fun W' e => ?_⟩
        exact first_calls ((lookRd 1 v [r_3] hv rfl).ext e (fun b hb z => hb.2 z)) in_3 (show Incr [1] from incr_1) (by decide)
    · obtain ⟨u0, u1, rfl⟩ := two_of hul
      have h0 : OwnI W' W1.heap.size u0 [0, 1] := hus 0 u0 rfl
      have h1 : OwnI W' W1.heap.size u1 [1] := hus 1 u1 rfl
      have hs : Rd (fun b => w.heap.size < b) W' [.slice (some ⟨bh, 0, none⟩) 2 ch] (.l 2 (heads_2.map headD)) := heads_rd hO h0 h1 (fun b hb => by show w.heap.size < b; omega) (fun b hb => by show w.heap.size < b; omega)
      have lk : Rd (fun b => w.heap.size < b) W' [.slice (some ⟨bl, 0, none⟩) 2 cl] (.l 1 (looks_2.map lookupD)) := (looks.ext e (fun b hb z => hb.2 z)).mono (fun b _ hb => hb.1)
      have gl : Rd (fun b => w.heap.size < b) W' [.slice ag 2 cg] (.l 8 (glyphs_2.map glyphD)) := (glyphs.ext e (fun b hb z => hb.2 z)).mono (fun b _ hb => hb.1)
      refine ⟨fun W'' e' => check_2 ((hs.ext0 e').mono fun _ _ _ => trivial) ((lk.ext0 e').mono fun _ _ _ => trivial) ((gl.ext0 e').mono fun _ _ _ => trivial), rfl, ?_, _, _, _, _, _, _, rfl, hs, lk, gl⟩
      exact Rd.mk1 (.str n_a (show n_a.size ≤ maxLen by decide)) (Rd.mk1 (Rd.int 1 (by unfold i64; omega)) (Rd.mk1 (Rd.empty _) (Rd.mk1 (Rd.empty _) (Rd.mk1 (Rd.int 2 (by unfold i64; omega)) (Rd.mk1 (Rd.empty _) (Rd.mk1 (Rd.empty _) (Rd.mk1 hs (Rd.mk1 (.str (⟨#[]⟩ : ByteArray) (show (⟨#[]⟩ : ByteArray).size ≤ maxLen by decide)) (Rd.mk1 lk (Rd.mk1 gl Rd.ends))))))))))
  · rintro e w' ⟨W, f, err, h1, ⟨rfl, hf, ah, ch, al, cl, ag, cg, rfl, rh, rl, rg⟩, h2, rfl⟩
    have hA : ∀ b, w.heap.size < b → ¬ b = w.heap.size := fun b hb z => by omega
    refine ⟨_, rfl, hf.ext h2 hA, h1.trans h2 (fun b hb z => by have z : b = w.heap.size := z; omega), fun W' e' => ?_⟩
    exact check_2 (((rh.ext h2 hA).ext0 e').mono fun _ _ _ => trivial) (((rl.ext h2 hA).ext0 e').mono fun _ _ _ => trivial) (((rg.ext h2 hA).ext0 e').mono fun _ _ _ => trivial)
end Go.Proofs.YtajebdpalnpjdaaGreatDoor
namespace Go.Proofs.YtajebdpalnpjdaaGreatDoor
open Go.RowKit
attribute [local go_sem] alloc_drewN setCell_drewN

theorem ruleM_of {r : RuleA} (h : RuleR r) : RuleM r where
  back := fun s hs => (h.back s hs).m
  in_ := fun s hs => (h.in_ s hs).m
  ahead := fun s hs => (h.ahead s hs).m
  out := fun n hn => by have := h.out n hn; unfold i64; omega
  few := h.few
theorem fontM_2 : FontM f_2 where
  axes := rfl
  regions := rfl
  pairs := rfl
  root := rfl
  name := by decide
  heads := rfl
  chars := fun c hc => by simp [f_2] at hc
  glyphs := fun g hg => by
    have hg : g ∈ glyphs_2 := hg
    simp only [glyphs_2, List.mem_cons, List.not_mem_nil, or_false] at hg
    rcases hg with rfl | rfl
    · exact ⟨⟨rfl, rfl, rfl⟩, fun x hx => by simp at hx⟩
    · exact ⟨⟨rfl, rfl, rfl⟩, fun x hx => by simp at hx⟩
  rules := fun l hl r hr => ruleM_of (rulesR_2 l hl r hr)
theorem textC_2 : (⟨(textC f_2).toArray⟩ : ByteArray) = semi t_2 := by
  apply bytes_ext
  simp [semi, semi1, textC, f_2, heads_2, looks_2, glyphs_2, r_1, r_2, r_3, lineC, fontSS, looksC, lookC, headC, rulesC, ruleC, ruleSS, endsS, charsC, glyphsC, glyphC, contoursC, progC, joinC, setS_list, callS, joinB_list, num_0, num_1, num_2, num_5, num_9]
/-- again, of the second text -/
theorem again_2 {w : World} (G : Glob w) (h64 : 11 ≤ w.heap.size) : Calls Tryz.prog 8 #[.string t_2] w fun e w' => e = .returned (.bool true) ∧ Ext Nope w w' :=
  again_calls G h64 (by decide) fontM_2 textC_2 (fun W e => parse_2 (G.ext0 e) (Nat.le_trans h64 e.size))
end Go.Proofs.YtajebdpalnpjdaaGreatDoor
namespace Go.Proofs.YtajebdpalnpjdaaGreatDoor
open Go.RowKit
attribute [local go_sem] alloc_drewN setCell_drewN

theorem Rd.uns {A : Nat → Prop} {w : World} {u : Value} {cs : List Value} {n : ByteArray} {ds : List Dat} (h : Rd A w (u :: cs) (.r (.s n :: ds))) : Rd A w cs (.r ds) := by
  obtain ⟨c2, q, _, h2⟩ := h.rs
  cases q
  exact h2
theorem Rd.uni {A : Nat → Prop} {w : World} {u : Value} {cs : List Value} {n : Int} {ds : List Dat} (h : Rd A w (u :: cs) (.r (.i n :: ds))) : Rd A w cs (.r ds) := by
  obtain ⟨c2, q, _, h2⟩ := h.ri
  cases q
  exact h2
theorem Rd.unl {A : Nat → Prop} {w : World} {u : Value} {cs : List Value} {sz : Nat} {xs ds : List Dat} (h : Rd A w (u :: cs) (.r (.l sz xs :: ds))) : Rd A w [u] (.l sz xs) ∧ Rd A w cs (.r ds) := by
  obtain ⟨v, c2, q, h1, h2⟩ := h.rl
  cases q
  exact ⟨h1, h2⟩
/-- The first head's first glyphs, as they stand in memory. -/
theorem heads_at {A : Nat → Prop} {w : World} {a : Option Addr} {n c : Nat} (h : Rd A w [.slice a n c] (.l 2 (heads_2.map headD))) : n = 2 ∧ ∃ bh oh bf of_ cf, a = some ⟨bh, oh, none⟩ ∧ w.cell? ⟨bh, oh + 1, none⟩ = some (.slice (some ⟨bf, of_, none⟩) 2 cf) ∧ w.cell? ⟨bf, of_, none⟩ = some (.int .i64 0) ∧ w.cell? ⟨bf, of_ + 1, none⟩ = some (.int .i64 1) := by
  obtain ⟨a', c', hv, _, _, hat⟩ := h.l_inv
  have hv : a = a' ∧ n = 2 ∧ c = c' := by simpa [heads_2] using hv
  obtain ⟨rfl, rfl, rfl⟩ := hv
  obtain ⟨bh, oh, rfl, _, _, hel⟩ := hat (by simp [heads_2])
  obtain ⟨us, _, hu, hr⟩ := hel 0 (headD ⟨5, [0, 1]⟩) rfl
  obtain ⟨_, rfl, _, hr⟩ := hr.ri
  obtain ⟨v, _, rfl, hvf, hr⟩ := hr.rl
  obtain rfl := hr.r_nil
  have hvf : Rd A w [v] (intsD [0, 1]) := hvf
  obtain ⟨af, cf, hvf1, _, _, _, hcell⟩ := hvf.ints_inv
  obtain ⟨bf, of_, rfl, _, _, hcell⟩ := hcell (by simp)
  subst hvf1
  exact ⟨rfl, bh, oh, bf, of_, cf, rfl, by simpa using hu 1 _ rfl, by simpa using hcell 0 0 rfl, hcell 1 1 rfl⟩
set_option maxRecDepth 100000 in
set_option maxHeartbeats 8000000 in
/-- sanity -/
theorem sanity_calls {w : World} (G : Glob w) (h64 : 11 ≤ w.heap.size) : Calls Tryz.prog 4 #[] w fun e w' => e = .returned (.bool true) ∧ Ext Nope w w' := by
  have HL := toHid (lines_calls (w := w) t_2 (by decide))
  have HP := toHid (fun (W : World) (e : Ext Nope w W) => parse_2 (G.ext0 e) (Nat.le_trans h64 e.size))
  have HA1 := toHid (fun (W : World) (e : Ext Nope w W) => again_1 (G.ext0 e) (Nat.le_trans h64 e.size))
  have HA2 := toHid (fun (W : World) (e : Ext Nope w W) => again_2 (G.ext0 e) (Nat.le_trans h64 e.size))
  have HFa := toHid (fun (W : World) (e : Ext Nope w W) => fails_a (G.ext0 e) (Nat.le_trans h64 e.size))
  have HFb := toHid (fun (W : World) (e : Ext Nope w W) => fails_b (G.ext0 e) (Nat.le_trans h64 e.size))
  have HFc := toHid (fun (W : World) (e : Ext Nope w W) => fails_c (G.ext0 e) (Nat.le_trans h64 e.size))
  have HFd := toHid (fun (W : World) (e : Ext Nope w W) => fails_d (G.ext0 e) (Nat.le_trans h64 e.size))
  have HFe := toHid (fun (W : World) (e : Ext Nope w W) => fails_e (G.ext0 e) (Nat.le_trans h64 e.size))
  have HFf := toHid (fun (W : World) (e : Ext Nope w W) => fails_f (G.ext0 e) (Nat.le_trans h64 e.size))
  have HFg := toHid (fun (W : World) (e : Ext Nope w W) => fails_g (G.ext0 e) (Nat.le_trans h64 e.size))
  obtain ⟨st, Hst⟩ : ∃ t, Hid (semi t_2 = t) := ⟨_, rfl⟩
  rw [Hst.out] at HL HP
  clear G
  go_enter Tryz.func4, Tryz.ntmps4
  go_wp2_with fail
  refine HL.out.mono ?_
  rintro e w2 ⟨rfl, e2⟩
  have H2 := toHid e2
  clear e2 HL
  go_wp2_with fail
  refine (HP.out _ H2.out).mono ?_
  rintro e w3 ⟨f, rfl, hf, e3, _⟩
  have H3 := toHid (ext0 H2.out e3)
  obtain ⟨nm, ver, ⟨a2, n2, k2⟩, ⟨a3, n3, k3⟩, cnt, ⟨a5, n5, k5⟩, ⟨a6, n6, k6⟩, ⟨a7, n7, k7⟩, rt, ⟨al, nl, cl⟩, ⟨ag, ng, cg⟩⟩ := f
  have hh : Rd (fun b => w2.heap.size < b) w3 [.slice a7 n7 k7] (.l 2 (heads_2.map headD)) := by
    have h1 := Rd.uns (n := n_a) (ds := (fontL f_2).drop 1) hf
    have h2 := Rd.uni (n := 1) (ds := (fontL f_2).drop 2) h1
    have h3 := Rd.unl (sz := 5) (xs := []) (ds := (fontL f_2).drop 3) h2
    have h4 := Rd.unl (sz := 1) (xs := []) (ds := (fontL f_2).drop 4) h3.2
    have h5 := Rd.uni (n := 2) (ds := (fontL f_2).drop 5) h4.2
    have h6 := Rd.unl (sz := 4) (xs := []) (ds := (fontL f_2).drop 6) h5
    have h7 := Rd.unl (sz := 3) (xs := []) (ds := (fontL f_2).drop 7) h6.2
    exact (Rd.unl (sz := 2) (xs := heads_2.map headD) (ds := (fontL f_2).drop 8) h7.2).1
  obtain ⟨rfl, bh, oh, bf, of_, cf, rfl, k0, k1, k2'⟩ := heads_at hh
  have ea : Ext Nope w3 (w3.alloc (.cells #[.string nm, .int .i64 ver, .slice a2 n2 k2, .slice a3 n3 k3, .int .i64 cnt, .slice a5 n5 k5, .slice a6 n6 k6, .slice (some ⟨bh, oh, none⟩) 2 k7, .string rt, .slice al nl cl, .slice ag ng cg] 36)) := (Ext.refl _ _).alloc _
  have hz := heap_alloc_new w3 (.cells #[.string nm, .int .i64 ver, .slice a2 n2 k2, .slice a3 n3 k3, .int .i64 cnt, .slice a5 n5 k5, .slice a6 n6 k6, .slice (some ⟨bh, oh, none⟩) 2 k7, .string rt, .slice al nl cl, .slice ag ng cg] 36)
  have HK := toHid (show ∀ W, Ext Nope (w3.alloc (.cells #[.string nm, .int .i64 ver, .slice a2 n2 k2, .slice a3 n3 k3, .int .i64 cnt, .slice a5 n5 k5, .slice a6 n6 k6, .slice (some ⟨bh, oh, none⟩) 2 k7, .string rt, .slice al nl cl, .slice ag ng cg] 36)) W → W.cell? ⟨w3.heap.size, 7, none⟩ = some (.slice (some ⟨bh, oh, none⟩) 2 k7) ∧ W.cell? ⟨bh, oh + 1, none⟩ = some (.slice (some ⟨bf, of_, none⟩) 2 cf) ∧ W.cell? ⟨bf, of_, none⟩ = some (.int .i64 0) ∧ W.cell? ⟨bf, of_ + 1, none⟩ = some (.int .i64 1) from fun W e =>
    ⟨(font_cells ((e.block _ (lt_of_heap hz) (fun z => z)).trans hz)).2.2.2.2.2.2.2.1, cell_keep (ext0 ea e) k0, cell_keep (ext0 ea e) k1, cell_keep (ext0 ea e) k2'⟩)
  have HEA := toHid ea
  clear hf hh e3 k0 k1 k2' ea hz HP
  go_upto_region 3 with fail
  generalize w3.alloc _ = w4 at *
  go_wp2_with fail
  refine (HA1.out _ (ext0 H3.out HEA.out)).mono ?_
  rintro e w5 ⟨rfl, e5⟩
  have H5 := toHid e5
  clear e5
  go_wp2_with fail
  refine (HA2.out _ (ext0 (ext0 H3.out HEA.out) H5.out)).mono ?_
  rintro e w6 ⟨rfl, e6⟩
  have H6 := toHid (ext0 H5.out e6)
  have HE6 := toHid (ext0 (ext0 H3.out HEA.out) H6.out)
  clear e6
  obtain ⟨c7, ch, c0, c1⟩ := HK.out w6 H6.out
  go_wp2_with fail
  refine (HFa.out _ HE6.out).mono ?_
  rintro e w7 ⟨rfl, e7⟩
  have HE7 := toHid (ext0 HE6.out e7)
  clear e7 c7 ch c0 c1
  go_wp2_with fail
  refine (HFb.out _ HE7.out).mono ?_
  rintro e w8 ⟨rfl, e8⟩
  have HE8 := toHid (ext0 HE7.out e8)
  clear e8
  go_wp2_with fail
  refine (HFc.out _ HE8.out).mono ?_
  rintro e w9 ⟨rfl, e9⟩
  have HE9 := toHid (ext0 HE8.out e9)
  clear e9
  go_wp2_with fail
  refine (HFd.out _ HE9.out).mono ?_
  rintro e w10 ⟨rfl, e10⟩
  have HE10 := toHid (ext0 HE9.out e10)
  clear e10
  go_wp2_with fail
  refine (HFe.out _ HE10.out).mono ?_
  rintro e w11 ⟨rfl, e11⟩
  have HE11 := toHid (ext0 HE10.out e11)
  clear e11
  go_wp2_with fail
  refine (HFf.out _ HE11.out).mono ?_
  rintro e w12 ⟨rfl, e12⟩
  have HE12 := toHid (ext0 HE11.out e12)
  clear e12
  go_wp2_with fail
  refine (HFg.out _ HE12.out).mono ?_
  rintro e w13 ⟨rfl, e13⟩
  have HE13 := toHid (ext0 HE12.out e13)
  clear e13
  go_wp2
  go_ret
  exact ⟨rfl, HE13.out⟩
theorem sanity_is {w : World} (G : Glob w) (h64 : 11 ≤ w.heap.size) : SanityIs w := fun W e => sanity_calls (G.ext0 e) (Nat.le_trans h64 e.size)
end Go.Proofs.YtajebdpalnpjdaaGreatDoor
