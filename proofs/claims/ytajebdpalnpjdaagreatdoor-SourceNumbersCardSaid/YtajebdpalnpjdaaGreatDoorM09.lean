/-
  Words; and whether a text is among some texts.
  The line of a font's name and version.
  The line of a glyph.
-/
import Derived.Test.YtajebdpalnpjdaaGreatDoorM08
import Derived.Shelf.Strings.SlTrimAscii
import Derived.Laws.EntriesVeiled
import Derived.Test.YtajebdpalnpjdaaGreatDoorM00
namespace Go.Proofs.YtajebdpalnpjdaaGreatDoor
open Go.RowKit
attribute [local go_sem] alloc_drewN setCell_drewN

def wordBytes : ByteArray := ⟨#[97, 98, 99, 100, 101, 102, 103, 104, 105, 106, 107, 108, 109, 110, 111, 112, 113, 114, 115, 116, 117, 118, 119, 120, 121, 122, 48, 49, 50, 51, 52, 53, 54, 55, 56, 57]⟩
theorem wordBytes_ascii : ∀ (j : Nat) b, wordBytes.data.toList[j]? = some b → b.toNat < 128 := by
  intro j b h
  have h1 : ∀ c ∈ wordBytes.data.toList, c.toNat < 128 := by decide
  exact h1 b (List.mem_of_getElem? h)
theorem trim_all {l cs : List UInt8} (h : ∀ c ∈ l, cs.contains c = true) : Lib.trimS l cs = [] := by
  have e : Lib.trimRightS l cs = [] := by
    unfold Lib.trimRightS
    have : l.reverse.dropWhile (cs.contains ·) = [] := by
      have key : ∀ m : List UInt8, (∀ c ∈ m, cs.contains c = true) → m.dropWhile (cs.contains ·) = [] := by
        intro m
        induction m with
        | nil => intro _; rfl
        | cons y m ih =>
          intro hm
          rw [List.dropWhile_cons, if_pos (hm y (by simp))]
          exact ih (fun c hc => hm c (List.mem_cons_of_mem _ hc))
      exact key _ (fun c hc => h c (by simpa using hc))
    rw [this]; rfl
  unfold Lib.trimS
  rw [e]; rfl
/-- A word. -/
def Word (x : ByteArray) : Prop := x.data.toList ≠ [] ∧ ∀ c ∈ x.data.toList, wordBytes.data.toList.contains c = true
theorem trim_word {x : ByteArray} (hx : Word x) (hs : x.size ≤ 100000) (w : World) : Calls Tryz.prog 135 #[.string x, .string wordBytes] w fun e w' => e = .returned (.string ⟨#[]⟩) ∧ Ext Nope w w' :=
  (Any.strings_Trim_laid Tryz.lays160 (by kernel_rfl) x wordBytes w (by omega) (by decide) wordBytes_ascii).mono fun e w' ⟨he, hw⟩ => ⟨by rw [he, trim_all hx.2], Ext.below hw⟩
set_option maxRecDepth 100000 in
/-- reader.word -/
theorem word_ok {w : World} {rb : Nat} {B : Nat → Prop} {cs : List Value} {x : ByteArray} {ws : List ByteArray} (h : RL w rb B cs (x :: ws)) (hx : Word x) (hs : x.size ≤ 100000) : Calls Tryz.prog 65 #[ptr rb] w fun e w' => e = .returned (.string x) ∧ RL w' rb B cs ws ∧ Ext (fun b => b = rb) w w' := by
  have HN := toHid (next_some h)
  have HT := toHid (trim_word hx hs)
  have s1 : (x.toList == []) = false := by
    rw [ByteArray.toList_eq, beq_eq_false_iff_ne]
    exact hx.1
  clear h hx
  unfold wordBytes at HT
  go_enter Tryz.func65, Tryz.ntmps65
  go_wp2_with fail
  refine HN.out.mono ?_
  rintro e w2 ⟨rfl, _, r2, e2⟩
  have H2 := toHid (show _ ∧ _ from ⟨r2, e2⟩)
  clear r2 e2 HN
  go_wp2_with fail
  refine (HT.out _).mono ?_
  rintro e w3 ⟨rfl, e3⟩
  have H3 := toHid (show _ ∧ _ from ⟨H2.out.1.ext0 e3, ext0 H2.out.2 e3⟩)
  clear e3
  go_wp2_with fail
  refine (need_yes _).mono ?_
  rintro e w4 ⟨rfl, rfl⟩
  go_wp2
  go_ret
  exact ⟨rfl, H3.out.1, H3.out.2⟩
/-- slices.Contains of texts -/
theorem contains_calls {A : Nat → Prop} {w : World} {v : Value} {l : List ByteArray} (hr : Rd A w [v] (.l 1 (l.map .s))) (x : ByteArray) : Calls Tryz.prog 21 #[v, .string x] w fun e w' => e = .returned (.bool (Lib.containsS l x)) ∧ w = w' := by
  obtain ⟨a, cap, hv, hc, hc2⟩ := hr.len
  rw [List.length_map] at hv hc
  subst hv
  by_cases h0 : l = []
  · subst h0
    exact (Tryz.slices_Contains_string_empty a cap x w).mono fun e w' ⟨he, hw⟩ => ⟨he, hw.symm⟩
  · obtain ⟨y, hy⟩ : ∃ y, l[0]? = some y := ⟨_, List.getElem?_eq_getElem (List.length_pos_iff.2 h0)⟩
    obtain ⟨b, off, rfl, _⟩ := strs_at hr hy
    have h := Tryz.slices_Contains_string b off l.length cap l x w (Nat.le_refl _) (by omega) (fun j hj => by
      obtain ⟨b', off', he, hcell⟩ := strs_at hr (List.getElem?_eq_getElem hj)
      simp only [Option.some.injEq, Addr.mk.injEq, and_true] at he
      obtain ⟨rfl, rfl⟩ := he
      rw [hcell, List.getD_eq_getElem?_getD, List.getElem?_eq_getElem hj]
      rfl)
    rw [List.take_length] at h
    exact h.mono fun e w' ⟨he, hw⟩ => ⟨he, hw.symm⟩
end Go.Proofs.YtajebdpalnpjdaaGreatDoor
namespace Go.Proofs.YtajebdpalnpjdaaGreatDoor
open Go.RowKit
attribute [local go_sem] alloc_drewN setCell_drewN

theorem RB.set {w : World} {rb : Nat} {cs : List Value} {v : Value} (h : RB w rb cs v) {o : Nat} (ho : o < 12) (u : Value) : RB (w.setCell ⟨rb, o, none⟩ u) rb (cs.set o u) v := by
  refine ⟨?_, by rw [List.length_set]; exact h.2⟩
  rw [show (⟨rb, o, none⟩ : Addr) = at_ rb o from rfl, heap_setCell_eq w rb o u _ _ _ h.1]
  congr 2
  apply Array.toList_inj.1
  rw [Array.toList_setIfInBounds]
  simp only [List.set_append]
  rw [if_pos (by rw [h.2]; exact ho)]
theorem RL.set {w : World} {rb : Nat} {B : Nat → Prop} {cs : List Value} {ws : List ByteArray} (h : RL w rb B cs ws) {o : Nat} (ho : o < 12) (u : Value) : RL (w.setCell ⟨rb, o, none⟩ u) rb B (cs.set o u) ws := by
  obtain ⟨v, h1, h2⟩ := h
  exact ⟨v, h1.set ho u, h2.ext (Ext.setCell (S := fun b => b = rb) (Ext.refl _ _) rb o (fun _ => rfl) u) (fun b hb => hb.1)⟩
theorem RL.at {w : World} {rb : Nat} {B : Nat → Prop} {cs : List Value} {ws : List ByteArray} (h : RL w rb B cs ws) {o : Nat} (ho : o < 12) : w.cell? ⟨rb, o, none⟩ = cs[o]? ∧ w.frozen? ⟨rb, o, none⟩ = false := by
  obtain ⟨v, h1, _⟩ := h
  exact ⟨h1.cell ho, h1.free o⟩
theorem RL.lt {w : World} {rb : Nat} {B : Nat → Prop} {cs : List Value} {ws : List ByteArray} (h : RL w rb B cs ws) : rb < w.heap.size := by
  obtain ⟨v, h1, _⟩ := h
  exact h1.lt
set_option maxRecDepth 100000 in
set_option maxHeartbeats 2000000 in
/-- reader.core of 'font' -/
theorem core_font {w : World} (G : Glob w) {rb : Nat} {B : Nat → Prop} {c0 c1 : Value} {cs : List Value} (hb : 11 ≤ rb) {x : ByteArray} {n : Int} {ws : List ByteArray} (h : RL w rb B (c0 :: c1 :: cs) (x :: num n :: ws)) (hx : Word x) (hs : x.size ≤ 100000) (h1 : -9999999 ≤ n) (h2 : n ≤ 9999999) :
    Calls Tryz.prog 25 #[ptr rb, .string k_font] w fun e w' => e = .returned (.tuple #[]) ∧ RL w' rb B (.string x :: .int .i64 n :: cs) ws ∧ Ext (fun b => b = rb) w w' := by
  have HG := toHid G
  have HL := toHid h
  have HX := toHid (show _ ∧ _ from ⟨hx, hs⟩)
  clear G h hx hs
  go_enter Tryz.func25, Tryz.ntmps25
  go_wp2_with fail
  have e1 : Ext Nope w (w.alloc (.cells #[.func (.func 64) #[] #[]] 136)) := (Ext.refl _ _).alloc _
  have H1 := toHid (show _ ∧ _ ∧ _ from ⟨HL.out.ext0 e1, HG.out.ext0 e1, e1⟩)
  clear e1
  refine (word_ok H1.out.1 HX.out.1 HX.out.2).mono ?_
  rintro e w2 ⟨rfl, r2, e2⟩
  have H2 := toHid (show _ ∧ _ ∧ _ from ⟨r2, H1.out.2.1.ext e2 (fun g hg z => by have z : g = rb := z; omega), ext1 H1.out.2.2 e2⟩)
  clear r2 e2
  go_wp2_with fail
  refine (number_ok H2.out.2.1 hb H2.out.1 h1 h2).mono ?_
  rintro e w3 ⟨rfl, r3, e3⟩
  have H3 := toHid (show _ ∧ _ from ⟨r3, H2.out.2.2.trans e3 (fun _ _ z => z)⟩)
  obtain ⟨q0, f0⟩ := r3.at (o := 0) (by omega)
  obtain ⟨q1, f1⟩ := r3.at (o := 1) (by omega)
  simp only [List.getElem?_cons_zero, List.getElem?_cons_succ] at q0 q1
  clear r3 e3
  go_wp2
  go_end0
  exact ⟨rfl, (H3.out.1.set (o := 0) (by omega) (.string x)).set (o := 1) (by omega) (.int .i64 n), Ext.setCell (S := fun b => b = rb) (Ext.setCell (S := fun b => b = rb) H3.out.2 rb 0 (fun _ => rfl) _) rb 1 (fun _ => rfl) _⟩
set_option maxRecDepth 100000 in
set_option maxHeartbeats 2000000 in
/-- reader.core of 'font', with a version that is no numeral -/
theorem core_font_bad {w : World} (G : Glob w) {rb : Nat} {B : Nat → Prop} {cs : List Value} (hb : 11 ≤ rb) {x s : ByteArray} {ws : List ByteArray} (h : RL w rb B cs (x :: s :: ws)) (hx : Word x) (hs : x.size ≤ 100000) (hs2 : s.size ≤ 100000) (hv : ∀ n, Lib.atoiAll s.data.toList = .ok n → i64 n ∧ (num n ≠ s ∨ 9999999 < n.natAbs)) :
    Calls Tryz.prog 25 #[ptr rb, .string k_font] w fun e w' => e = givenUp ∧ RL w' rb B cs ws ∧ Ext (fun b => b = rb) w w' := by
  have HG := toHid G
  have HL := toHid h
  have HX := toHid (show _ ∧ _ from ⟨hx, hs⟩)
  have HV := toHid hv
  clear G h hx hs hv
  go_enter Tryz.func25, Tryz.ntmps25
  go_wp2_with fail
  have e1 : Ext Nope w (w.alloc (.cells #[.func (.func 64) #[] #[]] 136)) := (Ext.refl _ _).alloc _
  have H1 := toHid (show _ ∧ _ ∧ _ from ⟨HL.out.ext0 e1, HG.out.ext0 e1, e1⟩)
  clear e1
  refine (word_ok H1.out.1 HX.out.1 HX.out.2).mono ?_
  rintro e w2 ⟨rfl, r2, e2⟩
  have H2 := toHid (show _ ∧ _ ∧ _ from ⟨r2, H1.out.2.1.ext e2 (fun g hg z => by have z : g = rb := z; omega), ext1 H1.out.2.2 e2⟩)
  clear r2 e2
  go_wp2_with fail
  refine (number_bad H2.out.2.1 hb H2.out.1 hs2 HV.out).mono ?_
  rintro e w3 ⟨rfl, r3, e3⟩
  exact ⟨rfl, rfl, r3, H2.out.2.2.trans e3 (fun _ _ z => z)⟩
end Go.Proofs.YtajebdpalnpjdaaGreatDoor
namespace Go.Proofs.YtajebdpalnpjdaaGreatDoor
open Go.RowKit
attribute [local go_sem] alloc_drewN setCell_drewN

theorem own_set {w : World} {base E g n cap sz : Nat} {xs : List Value} (h : w.ownsRow base E sz (.slice (some ⟨g, 0, none⟩) n cap) n xs) (j : Nat) (u : Value) :
    (w.setCell ⟨g, j, none⟩ u).ownsRow base E sz (.slice (some ⟨g, 0, none⟩) n cap) n (xs.set j u) := by
  obtain ⟨h0, ⟨hv, _⟩ | ⟨g', cap', cur, hv, hb, hg, h1, h2, h3, h4⟩⟩ := h
  · cases hv
  · cases hv
    refine ⟨by simpa using h0, .inr ⟨g, cap, cur.setIfInBounds j u, rfl, hb, heap_setCell_eq _ _ _ _ _ _ _ hg, h1, h2, by simpa using h3, ?_⟩⟩
    rw [Array.toList_setIfInBounds, ← h4, List.take_set]
theorem own_free {w : World} {base E g n cap sz m : Nat} {xs : List Value} (h : w.ownsRow base E sz (.slice (some ⟨g, 0, none⟩) n cap) m xs) (k : Nat) : w.frozen? ⟨g, k, none⟩ = false := by
  obtain ⟨_, ⟨hv, _⟩ | ⟨g', cap', cur, hv, hb, hg, h1, h2, h3, h4⟩⟩ := h
  · cases hv
  · cases hv
    exact free_of_blk hg k
theorem infoG : (Tryz.prog.info? 47).map (fun i => (i.zero, i.size, i.bytes)) = some (some (.agg #[.slice none 0 0, .slice none 0 0, .int .i64 0, .int .i64 0, .int .i64 0, .int .i64 0, .slice none 0 0, .slice none 0 0]), 8, 128) := by kernel_rfl
/-- A glyph's cells: its contours, its advance, its program. -/
def gRow (g : Value × Int × Value) : List Value := [g.1, .slice none 0 0, .int .i64 0, .int .i64 0, .int .i64 0, .int .i64 g.2.1, .slice none 0 0, g.2.2]
def gCells (gs : List (Value × Int × Value)) : List Value := gs.flatMap gRow
theorem gCells_append (a b : List (Value × Int × Value)) : gCells (a ++ b) = gCells a ++ gCells b := by simp [gCells]
theorem gRow_one {g : Value × Int × Value} (h1 : g.1.oneCell' = true) (h2 : g.2.2.oneCell' = true) : ∀ u ∈ gRow g, u.oneCell' = true := by
  intro u hu
  simp only [gRow, List.mem_cons, List.not_mem_nil, or_false] at hu
  rcases hu with rfl | rfl | rfl | rfl | rfl | rfl | rfl | rfl
  · exact h1
  · rfl
  · rfl
  · rfl
  · rfl
  · rfl
  · rfl
  · exact h2
def OwnG (w : World) (base : Nat) (v : Value) (gs : List (Value × Int × Value)) : Prop := w.ownsRow base 47 8 v gs.length (gCells gs)
theorem blk_at {w : World} {b T : Nat} {us : List Value} (h : w.heap[b]? = some (.cells us.toArray T (0, 0))) : ∀ (j : Nat) (u : Value), us[j]? = some u → w.cell? (Addr.add ⟨b, 0, none⟩ j) = some u := by
  intro j u hj
  have hadd : Addr.add ⟨b, 0, none⟩ j = at_ b j := by unfold Addr.add; split <;> simp_all
  rw [hadd, cell_of_blk h]
  simpa using hj
set_option maxRecDepth 100000 in
set_option maxHeartbeats 4000000 in
/-- reader.glyph of 'glyph' -/
theorem glyph_glyph {w : World} (G : Glob w) {rb base : Nat} {B : Nat → Prop} {cs : List Value} (hb : 11 ≤ rb) (hrb : rb < base) (hbw : base ≤ w.heap.size) {n : Int} {ws : List ByteArray} (h : RL w rb B cs (num n :: ws)) (h1 : -9999999 ≤ n) (h2 : n ≤ 9999999)
    {vg : Value} {gs : List (Value × Int × Value)} (hg : cs[10]? = some vg) (hBg : ∀ b, B b → ¬ vg.ownBlock = some b) (ho : OwnG w base vg gs) (hl : gs.length ≤ 100000) :
    Calls Tryz.prog 24 #[ptr rb, .string k_glyph] w fun e w' => e = .returned (.tuple #[]) ∧ ∃ vg', RL w' rb B (cs.set 10 vg') ws ∧ OwnG w' base vg' (gs ++ [(.slice none 0 0, n, .slice none 0 0)]) ∧ Ext (fun b => b = rb ∨ vg.ownBlock = some b) w w' := by
  have HG := toHid G
  have HL := toHid h
  have HO := toHid ho
  have HC := toHid hg
  obtain ⟨av, cv, hv, hcv, _⟩ := own_gen (show w.ownsRow base 47 8 vg gs.length _ from ho)
  obtain ⟨k, HK⟩ : ∃ k, Hid (gs.length = k) := ⟨_, rfl⟩
  rw [HK.out] at hv hcv hl
  subst hv
  have c10 : w.cell? ⟨rb, 10, none⟩ = some (.slice av k cv) := (h.at (by omega)).1.trans hg
  have HN := toHid (show ∀ W, Ext Nope w W → _ from fun W e => number_ok (G.ext0 e) hb (h.ext0 e) h1 h2)
  obtain ⟨i0, hi, hz0, hz1, hz2⟩ := info_parts infoG
  have HI := toHid (show _ ∧ _ ∧ _ ∧ _ from ⟨hi, hz0, hz1, hz2⟩)
  clear G h ho hg hi hz0 hz1 hz2
  go_enter Tryz.func24, Tryz.ntmps24
  go_wp2_with fail
  refine wp_region_head 11 (fun w' => w'.cell? ⟨rb, 10, none⟩ = some (.slice av k cv)) (by kernel_rfl) (by kernel_rfl) c10 (fun hO hHeld => ?_)
  refine wpAnyT_takeD (i := 0) (d := some 8) (v := ?_) hO rfl rfl (by kernel_rfl) (fun _ _ _ h => h) (Or.inl ⟨by rfl, ?_⟩) (by exact hHeld) ?_
  rotate_left
  · intro w' hSw
    go_simp
    try (with_reducible rfl)
  try simp only [Act.put, List.setIfInBounds_toArray, List.set_cons_zero, List.set_cons_succ]
  refine wpAnyT_takeD (i := 1) (d := some 9) (v := ?_) hO rfl rfl (by kernel_rfl) (fun _ _ _ h => h) (Or.inl ⟨by rfl, ?_⟩) (by exact hHeld) ?_
  rotate_left
  · intro w' hSw
    go_simp
    try (with_reducible rfl)
  try simp only [Act.put, List.setIfInBounds_toArray, List.set_cons_zero, List.set_cons_succ]
  refine wpAnyT_takeD (i := 2) (d := some 10) (v := ?_) hO rfl rfl (by kernel_rfl) (fun _ _ _ h => h) (Or.inl ⟨by rfl, ?_⟩) (by exact hHeld) ?_
  rotate_left
  · intro w' hSw
    go_simp
    try (with_reducible rfl)
  try simp only [Act.put, List.setIfInBounds_toArray, List.set_cons_zero, List.set_cons_succ]
  refine wpAnyT_takeD (i := 3) (d := some 11) (v := ?_) hO rfl rfl (by kernel_rfl) (fun _ _ _ h => h) (Or.inl ⟨by rfl, ?_⟩) (by exact hHeld) ?_
  rotate_left
  · intro w' hSw
    go_simp
    try (with_reducible rfl)
  try simp only [Act.put, List.setIfInBounds_toArray, List.set_cons_zero, List.set_cons_succ]
  refine wpAnyT_takeD (i := 4) (d := some 12) (v := ?_) hO rfl rfl (by kernel_rfl) (fun _ _ _ h => h) (Or.inl ⟨by rfl, ?_⟩) (by exact hHeld) ?_
  rotate_left
  · intro w' hSw
    go_simp
    try (with_reducible rfl)
  try simp only [Act.put, List.setIfInBounds_toArray, List.set_cons_zero, List.set_cons_succ]
  refine wpAnyT_takeD (i := 5) (d := some 13) (v := ?_) hO rfl rfl (by kernel_rfl) (fun _ _ _ h => h) (Or.inl ⟨by rfl, ?_⟩) (by exact hHeld) ?_
  rotate_left
  · intro w' hSw
    go_simp
    try (with_reducible rfl)
  try simp only [Act.put, List.setIfInBounds_toArray, List.set_cons_zero, List.set_cons_succ]
  refine wpAnyT_takeD (i := 6) (d := some 14) (v := ?_) hO rfl rfl (by kernel_rfl) (fun _ _ _ h => h) (Or.inl ⟨by rfl, ?_⟩) (by exact hHeld) ?_
  rotate_left
  · intro w' hSw
    go_simp
    try (with_reducible rfl)
  try simp only [Act.put, List.setIfInBounds_toArray, List.set_cons_zero, List.set_cons_succ]
  clear hHeld
  refine wpAnyT_one (i := 7) rfl (by kernel_rfl) (by rfl) (fun K hK => ?_)
  go_simp
  refine (HN.out _ (Ext.refl _ _).drew).mono ?_
  rintro e w2 ⟨rfl, r2, e2⟩
  have e2' : Ext (fun b => b = rb) w w2 := ext1 (Ext.refl Nope w).drew e2
  have c2 : w2.cell? ⟨rb, 10, none⟩ = some (.slice av k cv) := (r2.at (by omega)).1.trans HC.out
  have o2 : OwnG w2 base (.slice av k cv) gs := own_ext HO.out e2' (fun g hg z => by have h1 := (World.ownsRow.lt HO.out g hg).1; have z : g = rb := z; omega)
  have H2 := toHid (show _ ∧ _ ∧ _ from ⟨r2, e2', o2⟩)
  clear r2 e2 e2' o2 HN
  try go_simp
  refine hK.out _ _ c2 (fun _ => ?_)
  clear hK K
  try simp only [Act.put, List.setIfInBounds_toArray, List.set_cons_zero, List.set_cons_succ]
  refine wpAnyT_takeD (i := 8) (d := some 16) (v := ?_) hO rfl rfl (by kernel_rfl) (fun _ _ _ h => h) (Or.inl ⟨by rfl, ?_⟩) (by exact c2) ?_
  rotate_left
  · intro w' hSw
    go_simp
    try (with_reducible rfl)
  try simp only [Act.put, List.setIfInBounds_toArray, List.set_cons_zero, List.set_cons_succ]
  refine wpAnyT_one (i := 9) rfl (by kernel_rfl) (by rfl) (fun K hK => ?_)
  go_simp
  have hrow : [Value.slice none 0 0, .slice none 0 0, .int .i64 0, .int .i64 0, .int .i64 0, .int .i64 n, .slice none 0 0, .slice none 0 0] = gRow (.slice none 0 0, n, .slice none 0 0) := rfl
  have hlt2 : rb < w2.heap.size := H2.out.1.lt
  have c3 : (w2.alloc (.cells #[.slice none 0 0, .slice none 0 0, .int .i64 0, .int .i64 0, .int .i64 0, .int .i64 n, .slice none 0 0, .slice none 0 0] 47)).cell? ⟨rb, 10, none⟩ = some (.slice av k cv) := by
    rw [World.cell?_of_block (w := w2) (heap_alloc_old w2 _ rb hlt2)]; exact c2
  refine hK.out _ _ c3 (fun _ => ?_)
  clear hK K
  try simp only [Act.put, List.setIfInBounds_toArray, List.set_cons_zero, List.set_cons_succ]
  refine wpAnyT_one (i := 10) rfl (by kernel_rfl) (by rfl) (fun K hK => ?_)
  obtain ⟨hi, hz0, hz1, hz2⟩ := HI.out
  have hown : w2.ownsRow base 47 8 (.slice av k cv) k (gCells gs) := by
    have h := H2.out.2.2
    unfold OwnG at h
    rw [HK.out] at h
    exact h
  refine wp_append_own _ (.tmp 13) (.tmp 17) 34 rfl base 47 i0 _ 8 128 Tryz.underlying34 hi hz0 hz1 hz2 rfl (by decide) _ _ _ rfl (hown.alloc _) ⟨w2.heap.size, 0, none⟩ 1 1 (gRow (.slice none 0 0, n, .slice none 0 0)) rfl rfl (blk_at (heap_alloc_new w2 _)) (gRow_one rfl rfl) (by unfold maxLen; omega) (by omega) (by have := H2.out.2.1.size; simp; omega) ?_
  intro v' w3 hown3 hgrow _
  obtain ⟨av', cv', hv', _⟩ := own_gen hown3
  subst hv'
  have e3 : Ext (fun b => (Value.slice av k cv).ownBlock = some b) w2 w3 := Ext.grown ((Ext.refl _ _).alloc _) hgrow (fun g hg _ => hg)
  have hne : ¬ (Value.slice av k cv).ownBlock = some rb := fun z => by have := (World.ownsRow.lt hown rb z).1; omega
  have r3 := H2.out.1.ext e3 hne (fun b hb z => hBg b hb.2 z)
  obtain ⟨c4, f4⟩ := r3.at (o := 10) (by omega)
  rw [HC.out] at c4
  have o3 : OwnG w3 base (.slice av' (k + 1) cv') (gs ++ [(.slice none 0 0, n, .slice none 0 0)]) := by
    unfold OwnG
    rw [gCells_append, List.length_append, HK.out]
    exact hown3
  have H3 := toHid (show _ ∧ _ ∧ _ from ⟨r3, o3, (H2.out.2.1.mono (fun b z => Or.inl z)).trans (S := fun b => b = rb ∨ (Value.slice av k cv).ownBlock = some b) (e3.mono (fun b z => Or.inr z)) (fun _ _ z => z)⟩)
  clear hown3 hgrow e3 r3 o3 hown hi hz0 hz1 hz2 c2 c3 hrow
  refine hK.out _ _ c4 (fun _ => ?_)
  clear hK K
  try simp only [Act.put, List.setIfInBounds_toArray, List.set_cons_zero, List.set_cons_succ]
  refine wpAnyT_done (by kernel_rfl) ⟨by kernel_rfl, ?_⟩
  simp only [List.drop_succ_cons, List.drop_zero]
  go_wp2
  refine bodyPost_ret (v := .tuple #[]) (by simp [results, Tryz.results24, go_sem]) rfl ?_
  have e4 : Ext (fun b => b = rb) w3 (w3.setCell ⟨rb, 10, none⟩ (.slice av' (k + 1) cv')) := Ext.setCell (S := fun b => b = rb) (Ext.refl _ _) rb 10 (fun _ => rfl) _
  exact ⟨rfl, _, H3.out.1.set (o := 10) (by omega) _, own_ext H3.out.2.1 e4 (fun g hg z => by have := (World.ownsRow.lt H3.out.2.1 g hg).1; have z : g = rb := z; omega), H3.out.2.2.trans (e4.mono (fun b z => Or.inl z)) (fun _ _ z => z)⟩
set_option maxRecDepth 100000 in
set_option maxHeartbeats 4000000 in
/-- reader.glyph of 'glyph', with an advance that is no numeral -/
theorem glyph_bad {w : World} (G : Glob w) {rb : Nat} {B : Nat → Prop} {cs : List Value} (hb : 11 ≤ rb) {s : ByteArray} {ws : List ByteArray} (h : RL w rb B cs (s :: ws)) (hs : s.size ≤ 100000) (hv : ∀ n, Lib.atoiAll s.data.toList = .ok n → i64 n ∧ (num n ≠ s ∨ 9999999 < n.natAbs))
    {av : Option Addr} {k cv : Nat} (hg : cs[10]? = some (.slice av k cv)) :
    Calls Tryz.prog 24 #[ptr rb, .string k_glyph] w fun e w' => e = givenUp ∧ RL w' rb B cs ws ∧ Ext (fun b => b = rb) w w' := by
  have c10 : w.cell? ⟨rb, 10, none⟩ = some (.slice av k cv) := (h.at (by omega)).1.trans hg
  have HN := toHid (show ∀ W, Ext Nope w W → _ from fun W e => number_bad (G.ext0 e) hb (h.ext0 e) hs hv)
  clear G h hg hv
  go_enter Tryz.func24, Tryz.ntmps24
  go_wp2_with fail
  refine wp_region_head 11 (fun w' => w'.cell? ⟨rb, 10, none⟩ = some (.slice av k cv)) (by kernel_rfl) (by kernel_rfl) c10 (fun hO hHeld => ?_)
  refine wpAnyT_takeD (i := 0) (d := some 8) (v := ?_) hO rfl rfl (by kernel_rfl) (fun _ _ _ h => h) (Or.inl ⟨by rfl, ?_⟩) (by exact hHeld) ?_
  rotate_left
  · intro w' hSw
    go_simp
    try (with_reducible rfl)
  try simp only [Act.put, List.setIfInBounds_toArray, List.set_cons_zero, List.set_cons_succ]
  refine wpAnyT_takeD (i := 1) (d := some 9) (v := ?_) hO rfl rfl (by kernel_rfl) (fun _ _ _ h => h) (Or.inl ⟨by rfl, ?_⟩) (by exact hHeld) ?_
  rotate_left
  · intro w' hSw
    go_simp
    try (with_reducible rfl)
  try simp only [Act.put, List.setIfInBounds_toArray, List.set_cons_zero, List.set_cons_succ]
  refine wpAnyT_takeD (i := 2) (d := some 10) (v := ?_) hO rfl rfl (by kernel_rfl) (fun _ _ _ h => h) (Or.inl ⟨by rfl, ?_⟩) (by exact hHeld) ?_
  rotate_left
  · intro w' hSw
    go_simp
    try (with_reducible rfl)
  try simp only [Act.put, List.setIfInBounds_toArray, List.set_cons_zero, List.set_cons_succ]
  refine wpAnyT_takeD (i := 3) (d := some 11) (v := ?_) hO rfl rfl (by kernel_rfl) (fun _ _ _ h => h) (Or.inl ⟨by rfl, ?_⟩) (by exact hHeld) ?_
  rotate_left
  · intro w' hSw
    go_simp
    try (with_reducible rfl)
  try simp only [Act.put, List.setIfInBounds_toArray, List.set_cons_zero, List.set_cons_succ]
  refine wpAnyT_takeD (i := 4) (d := some 12) (v := ?_) hO rfl rfl (by kernel_rfl) (fun _ _ _ h => h) (Or.inl ⟨by rfl, ?_⟩) (by exact hHeld) ?_
  rotate_left
  · intro w' hSw
    go_simp
    try (with_reducible rfl)
  try simp only [Act.put, List.setIfInBounds_toArray, List.set_cons_zero, List.set_cons_succ]
  refine wpAnyT_takeD (i := 5) (d := some 13) (v := ?_) hO rfl rfl (by kernel_rfl) (fun _ _ _ h => h) (Or.inl ⟨by rfl, ?_⟩) (by exact hHeld) ?_
  rotate_left
  · intro w' hSw
    go_simp
    try (with_reducible rfl)
  try simp only [Act.put, List.setIfInBounds_toArray, List.set_cons_zero, List.set_cons_succ]
  refine wpAnyT_takeD (i := 6) (d := some 14) (v := ?_) hO rfl rfl (by kernel_rfl) (fun _ _ _ h => h) (Or.inl ⟨by rfl, ?_⟩) (by exact hHeld) ?_
  rotate_left
  · intro w' hSw
    go_simp
    try (with_reducible rfl)
  try simp only [Act.put, List.setIfInBounds_toArray, List.set_cons_zero, List.set_cons_succ]
  clear hHeld
  refine wpAnyT_one (i := 7) rfl (by kernel_rfl) (by rfl) (fun K hK => ?_)
  go_simp
  refine (HN.out _ (Ext.refl _ _).drew).mono ?_
  rintro e w2 ⟨rfl, r2, e2⟩
  exact ⟨rfl, rfl, r2, ext1 (Ext.refl Nope w).drew e2⟩
end Go.Proofs.YtajebdpalnpjdaaGreatDoor
