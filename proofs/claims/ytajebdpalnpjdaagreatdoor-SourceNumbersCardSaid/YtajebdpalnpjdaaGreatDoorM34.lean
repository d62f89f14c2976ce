/-
  The law's 'again'.
  The line of a lookup.
  The sets of a rule, read.
-/
import Derived.Test.YtajebdpalnpjdaaGreatDoorM33
import Derived.Test.YtajebdpalnpjdaaGreatDoorM26
import Derived.Test.YtajebdpalnpjdaaGreatDoorM32
namespace Go.Proofs.YtajebdpalnpjdaaGreatDoor
open Go.RowKit
attribute [local go_sem] alloc_drewN setCell_drewN

/-- What Parse does with a text that is a font's. -/
def Parses (W : World) (t : ByteArray) (F : FontA) : Prop :=
  Calls Tryz.prog 6 #[.string t] W fun e w' => ∃ f, e = .returned (.tuple #[FV.val f, .int .i64 0, .int .i64 0]) ∧ FontAt (fun b => W.heap.size < b) w' f F ∧ Ext Nope W w' ∧ ∀ W', Ext Nope w' W' → Calls Tryz.prog 13 #[FV.val f] W' fun e w'' => e = .returned (.int .i64 0) ∧ Ext Nope W' w''
set_option maxRecDepth 100000 in
set_option maxHeartbeats 4000000 in
/-- again -/
theorem again_calls {w : World} (G : Glob w) (h64 : 11 ≤ w.heap.size) {s : ByteArray} (hs : s.size ≤ 90000) {F : FontA} (hm : FontM F) (htx : (⟨(textC F).toArray⟩ : ByteArray) = semi s) (hP : ∀ W, Ext Nope w W → Parses W (semi s) F) :
    Calls Tryz.prog 8 #[.string s] w fun e w' => e = .returned (.bool true) ∧ Ext Nope w w' := by
  have hlen : (textC F).length ≤ 100000 := by
    have h1 : (⟨(textC F).toArray⟩ : ByteArray).size = (semi s).size := by rw [htx]
    rw [semi_size] at h1
    have h2 : (⟨(textC F).toArray⟩ : ByteArray).size = (textC F).length := by
      show (textC F).toArray.size = _
      simp
    omega
  have HL := toHid (fun W => lines_calls (w := W) s (by omega))
  have HT := toHid (fun (W : World) (f : FV) (e : Ext Nope w W) (hf : FontAt (fun _ => True) W f F) (hc) => text_calls (G.ext0 e) (Nat.le_trans h64 e.size) hm hf hc hlen)
  rw [htx] at HT
  have HP := toHid hP
  obtain ⟨t, Ht⟩ : ∃ t, Hid (semi s = t) := ⟨_, rfl⟩
  rw [Ht.out] at HL HT HP
  clear hP htx hm hlen G
  go_enter Tryz.func8, Tryz.ntmps8
  go_wp2_with fail
  refine (HL.out _).mono ?_
  rintro e w2 ⟨rfl, e2⟩
  have H2 := toHid e2
  clear e2
  go_wp2_with fail
  refine (HP.out _ H2.out).mono ?_
  rintro e w3 ⟨f, rfl, hf, e3, hck⟩
  have H3 := toHid (show _ ∧ _ ∧ _ from ⟨ext0 H2.out e3, hf.mono (fun _ _ _ => trivial), hck⟩)
  clear e3 hf hck HP
  obtain ⟨nm, ver, ⟨a2, n2, k2⟩, ⟨a3, n3, k3⟩, cnt, ⟨a5, n5, k5⟩, ⟨a6, n6, k6⟩, ⟨a7, n7, k7⟩, rt, ⟨al, nl, cl⟩, ⟨ag, ng, cg⟩⟩ := f
  go_upto_region 2 with fail
  have e4 : Ext Nope w3 (w3.alloc (.cells #[.string nm, .int .i64 ver, .slice a2 n2 k2, .slice a3 n3 k3, .int .i64 cnt, .slice a5 n5 k5, .slice a6 n6 k6, .slice a7 n7 k7, .string rt, .slice al nl cl, .slice ag ng cg] 36)) := (Ext.refl _ _).alloc _
  go_wp2_with fail
  refine (HT.out _ ⟨nm, ver, ⟨a2, n2, k2⟩, ⟨a3, n3, k3⟩, cnt, ⟨a5, n5, k5⟩, ⟨a6, n6, k6⟩, ⟨a7, n7, k7⟩, rt, ⟨al, nl, cl⟩, ⟨ag, ng, cg⟩⟩ (ext0 H3.out.1 e4) (H3.out.2.1.ext0 e4) (fun W e => H3.out.2.2 W (ext0 e4 e))).mono ?_
  rintro e w5 ⟨rfl, e5⟩
  have H5 := toHid (ext0 (ext0 H3.out.1 e4) e5)
  clear e4 e5 H3 HT
  go_wp2_with fail
  refine (HL.out _).mono ?_
  rintro e w6 ⟨rfl, e6⟩
  have H6 := toHid (ext0 H5.out e6)
  clear e6
  go_wp2_with fail
  go_ret
  exact ⟨rfl, H6.out⟩
theorem insM_A : ∀ x ∈ progA, InsM x := by
  intro x hx
  simp only [progA, List.mem_cons, List.not_mem_nil, or_false] at hx
  rcases hx with rfl | rfl
  · exact Or.inl rfl
  · exact Or.inr rfl
theorem fontM_1 : FontM f_1 where
  axes := rfl
  regions := rfl
  pairs := rfl
  root := rfl
  name := by decide
  heads := rfl
  chars := fun c hc => by
    have : c = ⟨65, 0, 30, []⟩ := by simpa [f_1] using hc
    rw [this]
  glyphs := fun g hg => by
    have : g = g_1 := by simpa [f_1] using hg
    subst this
    exact ⟨⟨rfl, rfl, rfl⟩, insM_A⟩
  rules := fun l hl => by simp [f_1] at hl
theorem textC_1 : (⟨(textC f_1).toArray⟩ : ByteArray) = semi t_1 := by
  apply bytes_ext
  simp [semi, semi1, textC, f_1, g_1, c_1, lineC, fontSS, looksC, charsC, charC1, glyphsC, glyphC, contoursC, progC, progA, insS, insW, joinC, num_1, num_5, num_0, num_65, num_10, num_20, num_30, ptText, ptCore, joinB_list]
/-- again, of the first text -/
theorem again_1 {w : World} (G : Glob w) (h64 : 11 ≤ w.heap.size) : Calls Tryz.prog 8 #[.string t_1] w fun e w' => e = .returned (.bool true) ∧ Ext Nope w w' :=
  again_calls G h64 (by decide) fontM_1 textC_1 (fun W e => parse_1 (G.ext0 e) (Nat.le_trans h64 e.size))
end Go.Proofs.YtajebdpalnpjdaaGreatDoor
namespace Go.Proofs.YtajebdpalnpjdaaGreatDoor
open Go.RowKit
attribute [local go_sem] alloc_drewN setCell_drewN

theorem infoHead : (Tryz.prog.info? 55).map (fun i => (i.zero, i.size, i.bytes)) = some (some (.agg #[.int .i64 0, .slice none 0 0]), 2, 32) := by kernel_rfl
theorem infoLook : (Tryz.prog.info? 66).map (fun i => (i.zero, i.size, i.bytes)) = some (some (.agg #[.slice none 0 0]), 1, 24) := by kernel_rfl
def hRow (p : Int × Value) : List Value := [.int .i64 p.1, p.2]
def hCells (hs : List (Int × Value)) : List Value := hs.flatMap hRow
/-- The heads of a font that is read. -/
def OwnH (w : World) (base : Nat) (v : Value) (hs : List (Int × Value)) : Prop := w.ownsRow base 55 2 v hs.length (hCells hs)
/-- The lookups of a font that is read: the slices of their rules. -/
def OwnL (w : World) (base : Nat) (v : Value) (ls : List Value) : Prop := w.ownsRow base 66 1 v ls.length ls
set_option maxRecDepth 100000 in
set_option maxHeartbeats 4000000 in
/-- reader.core of 'lookup' -/
theorem core_lookup {w : World} (G : Glob w) {rb base : Nat} {B : Nat → Prop} {cs : List Value} (hb : 11 ≤ rb) (hrb : rb < base) (hbw : base ≤ w.heap.size) {n : Int} (h : RL w rb B cs [num n]) (h1 : -9999999 ≤ n) (h2 : n ≤ 9999999)
    {vh vL : Value} {hs : List (Int × Value)} {ls : List Value} (hg : cs[7]? = some vh) (hg2 : cs[9]? = some vL) (hBg : ∀ b, B b → ¬ vh.ownBlock = some b ∧ ¬ vL.ownBlock = some b) (ho : OwnH w base vh hs) (ho2 : OwnL w base vL ls) (hl : hs.length ≤ 100000) (hl2 : ls.length ≤ 100000) :
    Calls Tryz.prog 25 #[ptr rb, .string k_lookup] w fun e w' => e = .returned (.tuple #[]) ∧ ∃ vh' vL', RL w' rb B ((cs.set 7 vh').set 9 vL') [] ∧ OwnH w' base vh' (hs ++ [(n, .slice none 0 0)]) ∧ OwnL w' base vL' (ls ++ [.slice none 0 0]) ∧ Ext (fun b => b = rb ∨ vh.ownBlock = some b ∨ vL.ownBlock = some b) w w' := by
  have HG := toHid G
  have HL := toHid h
  have HO := toHid (show _ ∧ _ from ⟨ho, ho2⟩)
  have HC := toHid (show _ ∧ _ ∧ _ from ⟨hg, hg2, hBg⟩)
  obtain ⟨av, cv, hv, hcv, _⟩ := own_gen (show w.ownsRow base 55 2 vh hs.length _ from ho)
  obtain ⟨aw, cw, hw', hcw, _⟩ := own_gen (show w.ownsRow base 66 1 vL ls.length _ from ho2)
  obtain ⟨k, HK⟩ : ∃ k, Hid (hs.length = k) := ⟨_, rfl⟩
  obtain ⟨m, HM⟩ : ∃ k, Hid (ls.length = k) := ⟨_, rfl⟩
  rw [HK.out] at hv hcv hl
  rw [HM.out] at hw' hcw hl2
  subst hv hw'
  obtain ⟨i0, hi, hz0, hz1, hz2⟩ := info_parts infoHead
  obtain ⟨j0, gi, gz0, gz1, gz2⟩ := info_parts infoLook
  have HI := toHid (show _ ∧ _ ∧ _ ∧ _ from ⟨hi, hz0, hz1, hz2⟩)
  have HI2 := toHid (show _ ∧ _ ∧ _ ∧ _ from ⟨gi, gz0, gz1, gz2⟩)
  have hlr := h.lt
  clear G h ho ho2 hg hg2 hi hz0 hz1 hz2 gi gz0 gz1 gz2 hBg
  go_enter Tryz.func25, Tryz.ntmps25
  go_upto_region 10 with fail
  have e1 : Ext Nope w (w.alloc (.cells #[.func (.func 64) #[] #[]] 136)) := (Ext.refl _ _).alloc _
  have r1 := HL.out.ext0 e1
  have c1 : (w.alloc (.cells #[.func (.func 64) #[] #[]] 136)).cell? ⟨rb, 7, none⟩ = some (.slice av k cv) := (r1.at (by omega)).1.trans HC.out.1
  have H1 := toHid (show _ ∧ _ ∧ _ ∧ _ ∧ _ from ⟨r1, HG.out.ext0 e1, e1, (show OwnH _ base (.slice av k cv) hs from own_ext HO.out.1 e1 (fun _ _ z => z)), (show OwnL _ base (.slice aw m cw) ls from own_ext HO.out.2 e1 (fun _ _ z => z))⟩)
  clear e1 r1
  generalize w.alloc (.cells #[.func (.func 64) #[] #[]] 136) = w1 at *
  obtain ⟨X, HX⟩ : ∃ X, Hid (w.heap.size = X) := ⟨_, rfl⟩
  rw [HX.out]
  refine wp_region_head 10 (fun w' => w'.cell? ⟨rb, 7, none⟩ = some (.slice av k cv)) (by kernel_rfl) (by kernel_rfl) c1 (fun hO hHeld => ?_)
  have q1 := toHid ((Ext.refl Nope w1).drew)
  generalize w1.drew = w2 at *
  refine wpAnyT_takeD (i := 0) (d := some 63) (v := ?_) hO rfl rfl (by kernel_rfl) (fun _ _ _ h => h) (Or.inl ⟨by rfl, ?_⟩) (by exact hHeld) ?_
  rotate_left
  · intro w' hSw
    go_simp
    try (with_reducible rfl)
  try simp only [Act.put, List.setIfInBounds_toArray, List.set_cons_zero, List.set_cons_succ]
  refine wpAnyT_takeD (i := 1) (d := some 64) (v := ?_) hO rfl rfl (by kernel_rfl) (fun _ _ _ h => h) (Or.inl ⟨by rfl, ?_⟩) (by exact hHeld) ?_
  rotate_left
  · intro w' hSw
    go_simp
    try (with_reducible rfl)
  try simp only [Act.put, List.setIfInBounds_toArray, List.set_cons_zero, List.set_cons_succ]
  refine wpAnyT_takeD (i := 2) (d := some 65) (v := ?_) hO rfl rfl (by kernel_rfl) (fun _ _ _ h => h) (Or.inl ⟨by rfl, ?_⟩) (by exact hHeld) ?_
  rotate_left
  · intro w' hSw
    go_simp
    try (with_reducible rfl)
  try simp only [Act.put, List.setIfInBounds_toArray, List.set_cons_zero, List.set_cons_succ]
  refine wpAnyT_takeD (i := 3) (d := some 66) (v := ?_) hO rfl rfl (by kernel_rfl) (fun _ _ _ h => h) (Or.inl ⟨by rfl, ?_⟩) (by exact hHeld) ?_
  rotate_left
  · intro w' hSw
    go_simp
    try (with_reducible rfl)
  try simp only [Act.put, List.setIfInBounds_toArray, List.set_cons_zero, List.set_cons_succ]
  refine wpAnyT_takeD (i := 4) (d := some 67) (v := ?_) hO rfl rfl (by kernel_rfl) (fun _ _ _ h => h) (Or.inl ⟨by rfl, ?_⟩) (by exact hHeld) ?_
  rotate_left
  · intro w' hSw
    go_simp
    try (with_reducible rfl)
  try simp only [Act.put, List.setIfInBounds_toArray, List.set_cons_zero, List.set_cons_succ]
  refine wpAnyT_takeD (i := 5) (d := some 68) (v := ?_) hO rfl rfl (by kernel_rfl) (fun _ _ _ h => h) (Or.inl ⟨by rfl, ?_⟩) (by exact hHeld) ?_
  rotate_left
  · intro w' hSw
    go_simp
    try (with_reducible rfl)
  try simp only [Act.put, List.setIfInBounds_toArray, List.set_cons_zero, List.set_cons_succ]
  have H2 := toHid (show _ ∧ _ from ⟨H1.out.1.ext0 q1.out, H1.out.2.1.ext0 q1.out⟩)
  clear hHeld
  refine wpAnyT_one (i := 6) rfl (by kernel_rfl) (by rfl) (fun K hK => ?_)
  go_simp
  refine (number_ok H2.out.2 hb H2.out.1 h1 h2).mono ?_
  rintro e w3 ⟨rfl, r3, e3⟩
  have e3' : Ext (fun b => b = rb) w1 w3 := ext1 q1.out e3
  have c3 : w3.cell? ⟨rb, 7, none⟩ = some (.slice av k cv) := (r3.at (by omega)).1.trans HC.out.1
  have hno : ∀ {E sz n : Nat} {v : Value} {xs : List Value}, w1.ownsRow base E sz v n xs → ∀ g, v.ownBlock = some g → ¬ g = rb := fun h g hg z => by have := (World.ownsRow.lt h g hg).1; omega
  have H3 := toHid (show _ ∧ _ ∧ _ ∧ _ from ⟨r3, ext1 H1.out.2.2.1 e3', (show OwnH w3 base (.slice av k cv) hs from own_ext H1.out.2.2.2.1 e3' (hno H1.out.2.2.2.1)), (show OwnL w3 base (.slice aw m cw) ls from own_ext H1.out.2.2.2.2 e3' (hno H1.out.2.2.2.2))⟩)
  clear r3 e3 e3' hno
  try go_simp
  refine hK.out _ _ c3 (fun _ => ?_)
  clear hK K
  try simp only [Act.put, List.setIfInBounds_toArray, List.set_cons_zero, List.set_cons_succ]
  refine wpAnyT_takeD (i := 7) (d := some 70) (v := ?_) hO rfl rfl (by kernel_rfl) (fun _ _ _ h => h) (Or.inl ⟨by rfl, ?_⟩) (by exact c3) ?_
  rotate_left
  · intro w' hSw
    go_simp
    try (with_reducible rfl)
  try simp only [Act.put, List.setIfInBounds_toArray, List.set_cons_zero, List.set_cons_succ]
  refine wpAnyT_one (i := 8) rfl (by kernel_rfl) (by rfl) (fun K hK => ?_)
  go_simp
  have hlt2 : rb < w3.heap.size := H3.out.1.lt
  have c4 : (w3.alloc (.cells #[.int .i64 n, .slice none 0 0] 55)).cell? ⟨rb, 7, none⟩ = some (.slice av k cv) := by
    rw [World.cell?_of_block (w := w3) (heap_alloc_old w3 _ rb hlt2)]; exact c3
  refine hK.out _ _ c4 (fun _ => ?_)
  clear hK K
  try simp only [Act.put, List.setIfInBounds_toArray, List.set_cons_zero, List.set_cons_succ]
  refine wpAnyT_one (i := 9) rfl (by kernel_rfl) (by rfl) (fun K hK => ?_)
  obtain ⟨hi, hz0, hz1, hz2⟩ := HI.out
  have hown : w3.ownsRow base 55 2 (.slice av k cv) k (hCells hs) := by
    have h := H3.out.2.2.1
    unfold OwnH at h
    rw [HK.out] at h
    exact h
  refine wp_append_own _ (.tmp 67) (.tmp 71) 30 rfl base 55 i0 _ 2 32 Tryz.underlying30 hi hz0 hz1 hz2 rfl (by decide) _ _ _ rfl (hown.alloc _) ⟨w3.heap.size, 0, none⟩ 1 1 (hRow (n, .slice none 0 0)) rfl rfl (blk_at (heap_alloc_new w3 _)) (by intro u hu; simp only [hRow, List.mem_cons, List.not_mem_nil, or_false] at hu; rcases hu with rfl | rfl <;> rfl) (by unfold maxLen; omega) (by omega) (by have := H3.out.2.1.size; simp; omega) ?_
  intro v' w4 hown4 hgrow0 _
  have hgrow : World.grownBy _ w4 (Value.slice av k cv).ownBlock := hgrow0
  clear hgrow0
  obtain ⟨av', cv', hv', _⟩ := own_gen hown4
  subst hv'
  have e4 : Ext (fun b => (Value.slice av k cv).ownBlock = some b) w3 w4 := Ext.grown ((Ext.refl _ _).alloc _) hgrow (fun g hg _ => hg)
  have hne : ¬ (Value.slice av k cv).ownBlock = some rb := fun z => by have := (World.ownsRow.lt hown rb z).1; omega
  have r4 := H3.out.1.ext e4 hne (fun b hb z => (HC.out.2.2 b hb.2).1 z)
  obtain ⟨c5, f5⟩ := r4.at (o := 7) (by omega)
  rw [HC.out.1] at c5
  have o4 : OwnH w4 base (.slice av' (k + 1) cv') (hs ++ [(n, .slice none 0 0)]) := by
    unfold OwnH hCells
    rw [List.flatMap_append, List.length_append, HK.out]
    exact hown4
  have L4 : OwnL w4 base (.slice aw m cw) ls := own_ext H3.out.2.2.2 e4 (fun g hg z => own_apart H3.out.2.2.2 hown (by decide) g hg z)
  have E4 : Ext (fun b => b = rb ∨ (Value.slice av k cv).ownBlock = some b ∨ (Value.slice aw m cw).ownBlock = some b) w w4 := (H3.out.2.1.mono (fun b z => Or.inl z)).trans (S := fun b => b = rb ∨ (Value.slice av k cv).ownBlock = some b ∨ (Value.slice aw m cw).ownBlock = some b) (e4.mono (fun b z => Or.inr (Or.inl z))) (fun _ _ z => z)
  have H4 := toHid (show _ ∧ _ ∧ _ ∧ _ from ⟨r4, o4, L4, E4⟩)
  clear hown4 hgrow e4 r4 o4 hown hi hz0 hz1 hz2 c3 c4 L4 E4
  refine hK.out _ _ c5 (fun _ => ?_)
  clear hK K
  try simp only [Act.put, List.setIfInBounds_toArray, List.set_cons_zero, List.set_cons_succ]
  refine wpAnyT_done (by kernel_rfl) ⟨by kernel_rfl, ?_⟩
  simp only [List.drop_succ_cons, List.drop_zero]
  go_upto_region 11 with fail
  have e5 : Ext (fun b => b = rb) w4 (w4.setCell ⟨rb, 7, none⟩ (.slice av' (k + 1) cv')) := Ext.setCell (S := fun b => b = rb) (Ext.refl _ _) rb 7 (fun _ => rfl) _
  have r5 := H4.out.1.set (o := 7) (by omega) (.slice av' (k + 1) cv')
  have o5 : OwnH (w4.setCell ⟨rb, 7, none⟩ (.slice av' (k + 1) cv')) base (.slice av' (k + 1) cv') (hs ++ [(n, .slice none 0 0)]) := own_ext H4.out.2.1 e5 (fun g hg z => by have := (World.ownsRow.lt H4.out.2.1 g hg).1; have z : g = rb := z; omega)
  have L5 : OwnL (w4.setCell ⟨rb, 7, none⟩ (.slice av' (k + 1) cv')) base (.slice aw m cw) ls := own_ext H4.out.2.2.1 e5 (fun g hg z => by have := (World.ownsRow.lt H4.out.2.2.1 g hg).1; have z : g = rb := z; omega)
  have E5 : Ext (fun b => b = rb ∨ (Value.slice av k cv).ownBlock = some b ∨ (Value.slice aw m cw).ownBlock = some b) w (w4.setCell ⟨rb, 7, none⟩ (.slice av' (k + 1) cv')) := H4.out.2.2.2.trans (S := fun b => b = rb ∨ (Value.slice av k cv).ownBlock = some b ∨ (Value.slice aw m cw).ownBlock = some b) (e5.mono (fun b z => Or.inl z)) (fun _ _ z => z)
  have c6 : (w4.setCell ⟨rb, 7, none⟩ (.slice av' (k + 1) cv')).cell? ⟨rb, 9, none⟩ = some (.slice aw m cw) := by
    rw [(r5.at (o := 9) (by omega)).1]
    rw [List.getElem?_set_ne (by omega)]
    exact HC.out.2.1
  generalize w4.setCell ⟨rb, 7, none⟩ (.slice av' (k + 1) cv') = w5 at *
  have hown : w5.ownsRow base 66 1 (.slice aw m cw) m ls := by
    have h := L5
    unfold OwnL at h
    rw [HM.out] at h
    exact h
  have H5 := toHid (show _ ∧ _ ∧ _ from ⟨r5, o5, E5⟩)
  clear H4 e5 r5 o5 L5 E5 c5 f5
  obtain ⟨gi, gz0, gz1, gz2⟩ := HI2.out
  go_wp2_with (first | (at_builtin; refine wpList_append_own _ rfl (.tmp 80) (.tmp 82) 33 rfl base 66 j0 _ 1 24 Tryz.underlying33 gi gz0 gz1 gz2 rfl (by decide) _ _ _ rfl (hown.alloc _) ⟨w5.heap.size, 0, none⟩ 1 1 [.slice none 0 0] rfl rfl (blk_at (heap_alloc_new w5 _)) (by intro u hu; simp at hu; subst hu; rfl) (by unfold maxLen; omega) (by omega) (by have := H5.out.2.2.size; simp; omega) ?_))
  intro v' w6 hown6 hgrow0 _
  have hgrow : World.grownBy _ w6 (Value.slice aw m cw).ownBlock := hgrow0
  clear hgrow0
  obtain ⟨aw', cw', hv', _⟩ := own_gen hown6
  subst hv'
  have e6 : Ext (fun b => (Value.slice aw m cw).ownBlock = some b) w5 w6 := Ext.grown ((Ext.refl _ _).alloc _) hgrow (fun g hg _ => hg)
  have hne : ¬ (Value.slice aw m cw).ownBlock = some rb := fun z => by have := (World.ownsRow.lt hown rb z).1; omega
  have r6 := H5.out.1.ext e6 hne (fun b hb z => (HC.out.2.2 b hb.2).2 z)
  obtain ⟨c7, f7⟩ := r6.at (o := 9) (by omega)
  have c7' : w6.cell? ⟨rb, 9, none⟩ = some (.slice aw m cw) := by
    rw [c7, List.getElem?_set_ne (by omega)]
    exact HC.out.2.1
  have o6 : OwnH w6 base (.slice av' (k + 1) cv') (hs ++ [(n, .slice none 0 0)]) := own_ext H5.out.2.1 e6 (fun g hg z => own_apart H5.out.2.1 hown (by decide) g hg z)
  have L6 : OwnL w6 base (.slice aw' (m + 1) cw') (ls ++ [.slice none 0 0]) := by
    unfold OwnL
    rw [List.length_append, HM.out]
    exact hown6
  have E6 := H5.out.2.2.trans (S := fun b => b = rb ∨ (Value.slice av k cv).ownBlock = some b ∨ (Value.slice aw m cw).ownBlock = some b) (e6.mono (fun b z => Or.inr (Or.inr z))) (fun _ _ z => z)
  have H6 := toHid (show _ ∧ _ ∧ _ ∧ _ from ⟨r6, o6, L6, E6⟩)
  clear hown6 hgrow e6 r6 hown gi gz0 gz1 gz2 c6 c7 o6 L6 E6
  go_wp2
  go_end0
  have e8 : Ext (fun b => b = rb) w6 (w6.setCell ⟨rb, 9, none⟩ (.slice aw' (m + 1) cw')) := Ext.setCell (S := fun b => b = rb) (Ext.refl _ _) rb 9 (fun _ => rfl) _
  exact ⟨rfl, _, _, H6.out.1.set (o := 9) (by omega) _, own_ext H6.out.2.1 e8 (fun g hg z => by have := (World.ownsRow.lt H6.out.2.1 g hg).1; have z : g = rb := z; omega), own_ext H6.out.2.2.1 e8 (fun g hg z => by have := (World.ownsRow.lt H6.out.2.2.1 g hg).1; have z : g = rb := z; omega), H6.out.2.2.2.trans (e8.mono (fun b z => Or.inl z)) (fun _ _ z => z)⟩
end Go.Proofs.YtajebdpalnpjdaaGreatDoor
namespace Go.Proofs.YtajebdpalnpjdaaGreatDoor
open Go.RowKit
attribute [local go_sem] alloc_drewN setCell_drewN

theorem infoInts : (Tryz.prog.info? 24).map (fun i => (i.zero, i.size, i.bytes)) = some (some (.slice none 0 0), 1, 24) := by kernel_rfl
/-- Slices of sets of one's own. -/
def OwnSets (w : World) (base : Nat) (v : Value) (c : List (List Int)) : Prop := ∃ vs : List Value, w.ownsRow base 24 1 v c.length vs ∧ ∀ (i : Nat) (s : List Int), c[i]? = some s → ∃ u, vs[i]? = some u ∧ OwnI w base u s
theorem OwnSets.ext {S : Nat → Prop} {w w' : World} {base : Nat} {v : Value} {c : List (List Int)} (h : OwnSets w base v c) (e : Ext S w w') (hS : ∀ (b : Nat) (cs : Array Value) (T : Nat) (fz : Nat × Nat), base ≤ b → w.heap[b]? = some (.cells cs T fz) → T = 24 ∨ T = 3 → ¬ S b) : OwnSets w' base v c := by
  have key : ∀ {E sz n : Nat} {v : Value} {xs : List Value}, w.ownsRow base E sz v n xs → (E = 24 ∨ E = 3) → ∀ g, v.ownBlock = some g → ¬ S g := fun h hE g hg => by
    have hlt := World.ownsRow.lt h g hg
    obtain ⟨_, ⟨rfl, _⟩ | ⟨g1, cap1, cur1, rfl, hb1, hh1, _⟩⟩ := h
    · cases hg
    · have e1 : g1 = g := by simpa [Value.ownBlock] using hg
      subst e1
      exact hS _ _ _ _ hb1 hh1 hE
  obtain ⟨vs, h1, h2⟩ := h
  refine ⟨vs, own_ext h1 e (key h1 (Or.inl rfl)), fun i s hs => ?_⟩
  obtain ⟨u, hu, ho⟩ := h2 i s hs
  exact ⟨u, hu, own_ext ho e (key ho (Or.inr rfl))⟩
theorem OwnSets.ext0 {w w' : World} {base : Nat} {v : Value} {c : List (List Int)} (h : OwnSets w base v c) (e : Ext Nope w w') : OwnSets w' base v c := h.ext e (fun _ _ _ _ _ _ _ z => z)
theorem OwnSets.mono {w : World} {b b' : Nat} {v : Value} {c : List (List Int)} (h : OwnSets w b v c) (hb : b' ≤ b) : OwnSets w b' v c := by
  obtain ⟨vs, h1, h2⟩ := h
  refine ⟨vs, own_base h1 (fun g hg => Nat.le_trans hb (World.ownsRow.lt h1 g hg).1), fun i s hs => ?_⟩
  obtain ⟨u, hu, ho⟩ := h2 i s hs
  exact ⟨u, hu, ho.mono hb⟩
theorem OwnSets.nil (w : World) (base : Nat) : OwnSets w base (.slice none 0 0) [] := ⟨[], ⟨rfl, .inl ⟨rfl, rfl⟩⟩, fun i s h => by simp at h⟩
theorem OwnSets.shape {w : World} {base : Nat} {v : Value} {c : List (List Int)} (h : OwnSets w base v c) : ∃ av cap, v = .slice av c.length cap ∧ c.length ≤ cap ∧ cap ≤ 9223372036854775807 ∧ (0 < c.length → ∃ g, av = some ⟨g, 0, none⟩) := by
  obtain ⟨vs, h1, _⟩ := h
  exact own_gen h1
/-- A set that is read: its numbers have at most seven digits. -/
def Set7 (s : List Int) : Prop := 0 < s.length ∧ s.length ≤ 100 ∧ ∀ n ∈ s, -9999999 ≤ n ∧ n ≤ 9999999
theorem Set7.m {s : List Int} (h : Set7 s) : SetM s := ⟨h.1, h.2.1, fun n hn => by have := h.2.2 n hn; unfold i64; omega⟩
theorem setS_list (s : List Int) : (setS s).data.toList = 123 :: ((joinB 44 (s.map num)).data.toList ++ [125]) := by
  unfold setS
  simp
theorem set_pre (s : List Int) : Lib.trimPrefix (setS s).data.toList [123] = (joinB 44 (s.map num)).data.toList ++ [125] ∧ Lib.hasPrefix (setS s).data.toList [123] = true := by
  have h : Lib.hasPrefix (setS s).data.toList [123] = true := by
    rw [setS_list]
    simp [Lib.hasPrefix]
  refine ⟨?_, h⟩
  unfold Lib.trimPrefix
  rw [h, setS_list]
  rfl
theorem set_suf (l : List UInt8) : Lib.trimSuffix (l ++ [125]) [125] = l ∧ Lib.hasSuffix (l ++ [125]) [125] = true := by
  have h : Lib.hasSuffix (l ++ [125]) [125] = true := by simp [Lib.hasSuffix]
  refine ⟨?_, h⟩
  unfold Lib.trimSuffix
  rw [h]
  simp
theorem num_ne (n : Int) : (num n).data.toList ≠ [] := by
  rw [num_list]
  unfold Lib.itoa
  split
  · simp
  · rw [Lib.decDigits]
    split
    · simp
    · simp
theorem join_ne {s : List Int} (h : 0 < s.length) : ((joinB 44 (s.map num)).toList == []) = false := by
  rw [ByteArray.toList_eq]
  cases s with
  | nil => simp at h
  | cons n s =>
    have hn := num_ne n
    rw [joinB_list]
    cases s with
    | nil => simpa [joinC] using hn
    | cons m s => simp [joinC]
end Go.Proofs.YtajebdpalnpjdaaGreatDoor
