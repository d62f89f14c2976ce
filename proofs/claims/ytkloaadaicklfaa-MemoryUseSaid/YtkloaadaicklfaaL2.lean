/-
  What 'filled' makes: both memories, and a list of what is kept, the same in both.
-/
import Derived.Test.YtkloaadaicklfaaL1
import Derived.Test.YtkloaadaicklfaaN0
namespace Go.Proofs.Ytkloaadaicklfaa
open Go.RowKit
attribute [local go_sem] alloc_drewN setCell_drewN

/-- What an act makes of the list. -/
def actA (B : Int) (xs : List Kept) (wh n s : Int) : List Kept :=
  if wh % 6 = 3 then (useA xs (keyA (n % 9))).2
  else if wh % 6 = 4 then (pinA xs (keyA (n % 9)) (s.tmod 2 == 0)).2
  else if wh % 6 = 5 then (dropA xs (keyA (n % 9))).2
  else (putA B xs (keyA (n % 9)) s).2.2

theorem actA_len {B : Int} {xs : List Kept} (h : KOk B xs) (wh n s : Int) : (actA B xs wh n s).length ≤ xs.length + 1 := by
  unfold actA
  split
  · have := (useA_ok h (keyA (n % 9))).2; omega
  split
  · have := (pinA_ok h (keyA (n % 9)) (s.tmod 2 == 0)).2.1; omega
  split
  · have := (dropA_ok h (keyA (n % 9))).2; omega
  · exact putA_len _ _ _ _

/-- Keys of what is kept come from the acts. -/
theorem restK_sub (o : Own) (xs : List Kept) : ∀ x ∈ restK o xs, x ∈ xs := fun _ hx => (List.mem_filter.1 hx).1
theorem actA_keys {P : Own → Prop} {B : Int} {xs : List Kept} (h : KOk B xs) (hx : ∀ x ∈ xs, P x.key) (wh n s : Int) (hn : P (keyA (n % 9))) : ∀ x ∈ actA B xs wh n s, P x.key := by
  unfold actA
  split
  · unfold useA
    split
    · rename_i y hy
      intro x hx'
      rcases List.mem_append.1 hx' with h1 | h1
      · exact hx x (restK_sub _ _ x h1)
      · simp only [List.mem_singleton] at h1; subst h1; exact hx _ (List.mem_of_find?_eq_some hy)
    · exact hx
  split
  · intro x hx'
    have e := (pinA_ok h (keyA (n % 9)) (s.tmod 2 == 0)).2.2
    have : x.key ∈ keysK xs := by rw [← e]; exact List.mem_map_of_mem hx'
    obtain ⟨y, hy, e1⟩ := List.mem_map.1 this
    rw [← e1]; exact hx y hy
  split
  · unfold dropA
    split
    · split
      · exact hx
      · exact fun x hx' => hx x (restK_sub _ _ x hx')
    · exact hx
  · unfold putA
    split
    · exact hx
    split
    · exact hx
    · intro x hx'
      rcases List.mem_append.1 hx' with h1 | h1
      · exact hx x (restK_sub _ _ x ((evictK_sub _ _ _).subset h1))
      · simp only [List.mem_singleton] at h1; subst h1; exact hn

theorem do_calls {w : World} {bm br : Nat} {B : Int} {xs : List Kept} {F G : Nat → Prop} (h : Both w bm br B xs F G) (hl : xs.length ≤ 900) (wh n s : Int) (hw0 : 0 ≤ wh) (hw2 : wh ≤ 255) (n0 : 0 ≤ n) (n1 : n ≤ 255) (s0 : -9223372036854775808 ≤ s) (s1 : s ≤ 9223372036854775807) :
    Calls Try.prog 23 #[ptr bm, ptr br, .agg #[.int .u8 wh, .int .u8 n, .int .i64 s]] w fun e w' => e = .returned (.bool true) ∧ ActOK w bm br B F G (actA B xs wh n s) w' := by
  unfold actA
  split
  · exact do_use h hl wh n s ‹_› hw0 hw2 n0 n1 s0 s1
  split
  · exact do_pin h hl wh n s ‹_› hw0 hw2 n0 n1 s0 s1
  split
  · exact do_drop h hl wh n s ‹_› hw0 hw2 n0 n1 s0 s1
  · exact do_put h hl wh n s (by omega) hw0 hw2 n0 n1 s0 s1

/-- Both memories, made after a world. -/
def BNew (w0 w : World) (bm br : Nat) (B : Int) (xs : List Kept) : Prop :=
  ∃ F G, Both w bm br B xs F G ∧ (∀ b, F b → w0.heap.size ≤ b) ∧ (∀ b, G b → w0.heap.size ≤ b) ∧ Ext Nope w0 w

theorem BNew.ok {w0 w : World} {bm br : Nat} {B : Int} {xs : List Kept} (h : BNew w0 w bm br B xs) : KOk B xs := by
  obtain ⟨F, G, h, _⟩ := h; exact h.ok
theorem BNew.under {w0 w : World} {bm br : Nat} {B : Int} {xs : List Kept} (h : BNew w0 w bm br B xs) : Ext Nope w0 w := by
  obtain ⟨F, G, h, _, _, e⟩ := h; exact e
theorem BNew.ext {w0 w w' : World} {bm br : Nat} {B : Int} {xs : List Kept} (h : BNew w0 w bm br B xs) (he : Ext Nope w w') : BNew w0 w' bm br B xs := by
  obtain ⟨F, G, h, hF, hG, e⟩ := h
  exact ⟨F, G, h.ext he (fun _ _ z => z), hF, hG, ext0 e he⟩
theorem bnew_do {w0 w : World} {bm br : Nat} {B : Int} {xs : List Kept} (h : BNew w0 w bm br B xs) (hl : xs.length ≤ 900) (wh n s : Int) (hw0 : 0 ≤ wh) (hw2 : wh ≤ 255) (n0 : 0 ≤ n) (n1 : n ≤ 255) (s0 : -9223372036854775808 ≤ s) (s1 : s ≤ 9223372036854775807) :
    Calls Try.prog 23 #[ptr bm, ptr br, .agg #[.int .u8 wh, .int .u8 n, .int .i64 s]] w fun e w' => e = .returned (.bool true) ∧ BNew w0 w' bm br B (actA B xs wh n s) := by
  obtain ⟨F, G, h, hF, hG, e⟩ := h
  have hs := e.size
  refine (do_calls h hl wh n s hw0 hw2 n0 n1 s0 s1).mono ?_
  rintro e1 w' ⟨rfl, F', G', h', hF', hG', e'⟩
  refine ⟨rfl, F', G', h', fun b hb => ?_, fun b hb => ?_, ?_⟩
  · rcases hF' b hb with z | z
    · exact hF b z
    · omega
  · rcases hG' b hb with z | z
    · exact hG b z
    · omega
  · have := e'.size
    refine ⟨e'.os.trans e.os, e'.tape.trans e.tape, e'.output.trans e.output, by omega, fun b hb _ => ?_⟩
    rw [e'.block b (by omega) (fun z => by rcases z with z | z; (have := hF b z; omega); (have := hG b z; omega)), e.block b hb (fun z => z)]
theorem bnew_used {w0 w : World} {bm br : Nat} {B : Int} {xs : List Kept} (h : BNew w0 w bm br B xs) : Calls Try.prog 19 #[ptr bm] w fun e w' => e = .returned (.int .i64 (usedOf xs)) ∧ w = w' := by
  obtain ⟨F, G, h, _⟩ := h
  exact mused_calls h.mem
theorem bnew_rused {w0 w : World} {bm br : Nat} {B : Int} {xs : List Kept} (h : BNew w0 w bm br B xs) (hl : xs.length ≤ 900) : Calls Try.prog 24 #[ptr br] w fun e w' => e = .returned (.int .i64 (usedOf xs)) ∧ w = w' := by
  obtain ⟨F, G, h, _⟩ := h
  exact rused_calls h.ref h.ok (by omega)
theorem bnew_list {w0 w : World} {bm br : Nat} {B : Int} {xs : List Kept} (h : BNew w0 w bm br B xs) (hl : xs.length ≤ 900) : Calls Try.prog 18 #[ptr bm] w fun e w' => ∃ v, e = .returned v ∧ KeysAt w' w.heap.size v (keysK xs) ∧ Ext Nope w w' := by
  obtain ⟨F, G, h, _⟩ := h
  exact mlist_calls h.mem (by omega)
theorem bnew_rlist {w0 w : World} {bm br : Nat} {B : Int} {xs : List Kept} (h : BNew w0 w bm br B xs) (hl : xs.length ≤ 900) : Calls Try.prog 25 #[ptr br] w fun e w' => ∃ v, e = .returned v ∧ KeysAt w' w.heap.size v (keysK xs) ∧ Ext Nope w w' := by
  obtain ⟨F, G, h, _⟩ := h
  exact rlist_calls h.ref (by omega)
theorem bnew_new (n : Int) (h1 : 0 ≤ n) (h2 : n ≤ 1073741824) {w w1 w2 : World} {bm br : Nat} (hm : MemIs w1 bm n [] (fun b => w.heap.size ≤ b ∧ b < w1.heap.size)) (he : Ext Nope w w1) (hr : RefIs w2 br n [] (fun b => w1.heap.size ≤ b ∧ b < w2.heap.size)) (he2 : Ext Nope w1 w2) : BNew w w2 bm br n [] := by
  have := he.size
  have := he2.size
  exact ⟨_, _, ⟨hm.ext he2 (fun _ _ z => z), hr, kok_nil h1 h2, fun b hb hg => by omega, fun b hb => by omega, fun b hb => hb.2⟩, fun b hb => hb.1, fun b hb => by omega, ext0 he he2⟩

/-- The acts of a slice. -/
def ActsAt (w : World) (a : Option Addr) (len : Nat) : Prop :=
  len = 0 ∨ ∃ b off, a = some ⟨b, off, none⟩ ∧ b < w.heap.size ∧ ∀ k, k < len → ∃ wh n s, (0 ≤ wh ∧ wh ≤ 255) ∧ (0 ≤ n ∧ n ≤ 255) ∧ (-9223372036854775808 ≤ s ∧ s ≤ 9223372036854775807) ∧
    w.cell? ⟨b, off + k * 3, none⟩ = some (.int .u8 wh) ∧ w.cell? ⟨b, off + k * 3 + 1, none⟩ = some (.int .u8 n) ∧ w.cell? ⟨b, off + k * 3 + 2, none⟩ = some (.int .i64 s)

/-- What 'filled' hands back. -/
def Filled (w : World) (B : Int) (e : Ending) (w' : World) : Prop :=
  ∃ bm br xs, e = .returned (.tuple #[ptr bm, ptr br, .bool true]) ∧ BNew w w' bm br B xs ∧ xs.length ≤ 60 ∧ ∀ x ∈ xs, x.key.f ≠ 7

set_option maxHeartbeats 4000000 in
theorem filled_calls (B : Int) (h1 : 0 ≤ B) (h2 : B ≤ 1073741824) (w : World) (a : Option Addr) (len cap : Nat) (ha : ActsAt w a len) (hlen : len ≤ 9223372036854775807) :
    Calls Try.prog 11 #[.int .i64 B, .slice a len cap] w (Filled w B) := by
  obtain rfl | ⟨b, off, rfl, hb, hc⟩ := ha
  · go_enter Try.func11, Try.ntmps11
    go_wp2_with fail
    refine (mnew_calls B w h1 h2).mono ?_
    rintro e w1 ⟨bm, rfl, hm, he⟩
    go_wp2_with fail
    refine (rnew_calls B w1 h1 h2).mono ?_
    rintro e w2 ⟨br, rfl, hr, he2⟩
    have HB := bnew_new B h1 h2 hm he hr he2
    clear hm he hr he2
    go_wp2_with fail
    refine wp_loop_rounds 1 ?_
    rw [rounds_succ]
    go_wp2
    go_ret3
    exact ⟨bm, br, [], rfl, HB, by simp, by simp⟩
  · go_enter Try.func11, Try.ntmps11
    go_wp2_with fail
    refine (mnew_calls B w h1 h2).mono ?_
    rintro e w1 ⟨bm, rfl, hm, he⟩
    go_wp2_with fail
    refine (rnew_calls B w1 h1 h2).mono ?_
    rintro e w2 ⟨br, rfl, hr, he2⟩
    have HB := bnew_new B h1 h2 hm he hr he2
    clear hm he hr he2
    go_wp2_with fail
    go_loopw [9] (fun i wr => ∃ (k : Nat) (xs : List Kept), i = .int .i64 k ∧ k ≤ 60 ∧ k ≤ len ∧ xs.length ≤ k ∧ BNew w wr bm br B xs ∧ Hid (∀ x ∈ xs, x.key.f ≠ 7)) (fun i _ => 60 - (intOf i).toNat)
    case atStart => exact ⟨0, [], rfl, by omega, by omega, by simp, HB, (by simp : ∀ x ∈ ([] : List Kept), x.key.f ≠ 7)⟩
    case round =>
      obtain ⟨k, xs, rfl, hk6, hkl, hxl, hB, h7⟩ := hrel
      by_cases hk : k < len ∧ k < 60
      · obtain ⟨hk1, hk2⟩ := hk
        obtain ⟨wh, n, s, ⟨w0', w1'⟩, ⟨n0', n1'⟩, ⟨s0', s1'⟩, c0, c1, c2⟩ := hc k hk1
        have hbk := (hB.under).block b hb (fun z => z)
        have d0 := (World.cell?_of_block (w := w) (a := ⟨b, off + k * 3, none⟩) hbk).trans c0
        have d1 := (World.cell?_of_block (w := w) (a := ⟨b, off + k * 3 + 1, none⟩) hbk).trans c1
        have d2 := (World.cell?_of_block (w := w) (a := ⟨b, off + k * 3 + 2, none⟩) hbk).trans c2
        have hal := actA_len hB.ok wh n s
        have h7' : Hid (∀ x ∈ actA B xs wh n s, x.key.f ≠ 7) := actA_keys (P := fun o => o.f ≠ 7) hB.ok h7.out wh n s (by show (n % 9) % 2 ≠ 7; omega)
        clear c0 c1 c2 hbk hc HB hb
        go_wp2_with fail
        refine (bnew_do hB (by omega) wh n s w0' w1' n0' n1' s0' s1').mono ?_
        rintro e w3 ⟨rfl, hB3⟩
        clear hB d0 d1 d2
        go_wp2_with fail
        refine (bnew_used hB3).mono ?_
        rintro e wz ⟨rfl, rfl⟩
        go_wp2_with fail
        refine (bnew_rused hB3 (by omega)).mono ?_
        rintro e wz ⟨rfl, rfl⟩
        go_wp2_with fail
        refine (bnew_list hB3 (by omega)).mono ?_
        rintro e w4 ⟨v, rfl, hv, e4⟩
        have hB4 := hB3.ext e4
        clear hB3 e4
        go_wp2_with fail
        refine (bnew_rlist hB4 (by omega)).mono ?_
        rintro e w5 ⟨u, rfl, hu, e5⟩
        have hB5 := hB4.ext e5
        have hv5 := hv.ext e5 (fun _ _ z => z)
        clear hB4 e5 hv
        go_wp2_with fail
        refine (same_calls hv5 hu (by simp [keysK]; omega)).mono ?_
        rintro e w6 ⟨rfl, e6⟩
        have hB6 := hB5.ext e6
        clear hB5 e6 hv5 hu
        go_wp2
        go_roundw
        case rel => exact ⟨k + 1, actA B xs wh n s, by go_num, by omega, by omega, by omega, hB6, h7'⟩
        case measure => simp [intOf]; omega
      · clear hc HB
        by_cases hkk : k < len
        · have h60 : ¬ k < 60 := fun z => hk ⟨hkk, z⟩
          clear hk
          go_wp2
          go_ret3
          exact ⟨bm, br, xs, rfl, hB, by omega, h7.out⟩
        · clear hk
          go_wp2
          go_ret3
          exact ⟨bm, br, xs, rfl, hB, by omega, h7.out⟩

end Go.Proofs.Ytkloaadaicklfaa
