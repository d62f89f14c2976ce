/-
  What may stand before a line of some kind.
-/
import Derived.Test.YtajebdpalnpjdaaGreatDoorM07
namespace Go.Proofs.YtajebdpalnpjdaaGreatDoor
open Go.RowKit
attribute [local go_sem] alloc_drewN setCell_drewN

abbrev k_font : ByteArray := ⟨#[102, 111, 110, 116]⟩
abbrev k_axis : ByteArray := ⟨#[97, 120, 105, 115]⟩
abbrev k_region : ByteArray := ⟨#[114, 101, 103, 105, 111, 110]⟩
abbrev k_lookup : ByteArray := ⟨#[108, 111, 111, 107, 117, 112]⟩
abbrev k_rule : ByteArray := ⟨#[114, 117, 108, 101]⟩
abbrev k_char : ByteArray := ⟨#[99, 104, 97, 114]⟩
abbrev k_pair : ByteArray := ⟨#[112, 97, 105, 114]⟩
abbrev k_glyph : ByteArray := ⟨#[103, 108, 121, 112, 104]⟩
abbrev k_contour : ByteArray := ⟨#[99, 111, 110, 116, 111, 117, 114]⟩
abbrev k_anchor : ByteArray := ⟨#[97, 110, 99, 104, 111, 114]⟩
abbrev k_hang : ByteArray := ⟨#[104, 97, 110, 103]⟩
abbrev k_delta : ByteArray := ⟨#[100, 101, 108, 116, 97]⟩
abbrev k_program : ByteArray := ⟨#[112, 114, 111, 103, 114, 97, 109]⟩
abbrev k_root : ByteArray := ⟨#[114, 111, 111, 116]⟩
abbrev k_call : ByteArray := ⟨#[99, 97, 108, 108]⟩
abbrev k_none : ByteArray := ⟨#[]⟩
def kinds : List ByteArray := [k_font, k_axis, k_region, k_lookup, k_rule, k_char, k_pair, k_glyph, k_contour, k_anchor, k_hang, k_delta, k_program, k_root]
def kindsText : ByteArray := ⟨#[102, 111, 110, 116, 32, 97, 120, 105, 115, 32, 114, 101, 103, 105, 111, 110, 32, 108, 111, 111, 107, 117, 112, 32, 114, 117, 108, 101, 32, 99, 104, 97, 114, 32, 112, 97, 105, 114, 32, 103, 108, 121, 112, 104, 32, 99, 111, 110, 116, 111, 117, 114, 32, 97, 110, 99, 104, 111, 114, 32, 104, 97, 110, 103, 32, 100, 101, 108, 116, 97, 32, 112, 114, 111, 103, 114, 97, 109, 32, 114, 111, 111, 116]⟩
theorem kinds_fields : (Lib.fields kindsText.data.toList).map (fun l => Value.string ⟨l.toArray⟩) = kinds.map Value.string := by kernel_rfl
theorem kinds_length : (Lib.fields kindsText.data.toList).length = 14 := by kernel_rfl
theorem kinds_ascii : ∀ (j : Nat) b, kindsText.data.toList[j]? = some b → b.toNat < 128 := by
  intro j b h
  have h1 : ∀ c ∈ kindsText.data.toList, c.toNat < 128 := by decide
  exact h1 b (List.mem_of_getElem? h)
/-- strings.Fields of the kinds -/
theorem fields_kinds {w : World} (G : Glob w) : Calls Tryz.prog 23 #[.string kindsText] w fun e w' => e = .returned (.slice (some ⟨w.heap.size, 0, none⟩) 14 14) ∧ w' = w.alloc (.cells (kinds.map Value.string).toArray 9) := by
  refine (Tryz.strings_Fields_laid kindsText w (by decide) kinds_ascii G.spc).mono ?_
  rintro e w' ⟨rfl, rfl⟩
  rw [kinds_length, kinds_fields]
  exact ⟨rfl, rfl⟩
theorem ent_from : Enters 54 := enters_of Tryz.func54 (by kernel_rfl) rfl
/-- slices.Index among the kinds -/
theorem index_kinds {w : World} {b : Nat} (hb : w.heap[b]? = some (.cells (kinds.map Value.string).toArray 9 (0, 0))) (x : ByteArray) (i : Int) (hi : Lib.idxOfS kinds x = i) : Calls Tryz.prog 53 #[.slice (some ⟨b, 0, none⟩) 14 14, .string x] w fun e w' => e = .returned (.int .i64 i) ∧ w' = w := by
  have h := Tryz.slices_Index_string b 0 14 14 kinds x w (by decide) (by decide) (fun j hj => by
    rw [show (⟨b, 0 + j, none⟩ : Addr) = at_ b j by simp, cell_of_blk hb]
    simp [List.getD_eq_getElem?_getD, hj])
  rw [show kinds.take 14 = kinds from rfl, hi] at h
  exact h
set_option maxRecDepth 100000 in
/-- the closure of source.follows -/
theorem from_calls {w : World} {b m : Nat} (hb : w.heap[b]? = some (.cells (kinds.map Value.string).toArray 9 (0, 0))) (hm : w.cell? ⟨m, 0, none⟩ = some (.slice (some ⟨b, 0, none⟩) 14 14)) (x y : ByteArray) (i j : Nat) (hi : Lib.idxOfS kinds x = i) (hj : Lib.idxOfS kinds y = j) (hij : i ≤ j) (hj14 : j < 14) :
    Calls Tryz.prog 54 #[.string x, .string y, ptr m] w fun e w' => e = .returned (.slice (some ⟨b, i, none⟩) (j - i) (14 - i)) ∧ w' = w.drew := by
  have H1 := toHid (show ∀ W : World, W.heap = w.heap → _ from fun W hW => index_kinds (w := W) (b := b) (by rw [hW]; exact hb) x i hi)
  have H2 := toHid (show ∀ W : World, W.heap = w.heap → _ from fun W hW => index_kinds (w := W) (b := b) (by rw [hW]; exact hb) y j hj)
  clear hb hi hj
  have s1 : (0 : Int) ≤ (i : Int) := by omega
  have s2 : (i : Int) ≤ (j : Int) := by omega
  have s3 : (j : Int) ≤ 14 := by omega
  have s4 : (0 : Int) ≤ (j : Int) := by omega
  have s5 : ¬ (14 : Nat) = i := by omega
  go_enter Tryz.func54, Tryz.ntmps54
  go_wp2_with fail
  go_still_tail 8, (by kernel_rfl)
  still_call (H1.out _ rfl)
  repeat still_step
  still_call (H2.out _ rfl)
  repeat still_step
  refine wpStill_nil ?_
  change wpList _ _ _ _ _ w.drew
  go_wp2
  go_ret
  exact ⟨rfl, rfl⟩
theorem Rd.strsAt {A : Nat → Prop} {w : World} {b T : Nat} {fz : Nat × Nat} {l : List ByteArray} (h : w.heap[b]? = some (.cells (l.map Value.string).toArray T fz)) (hA : A b) (hi : ∀ n ∈ l, n.size ≤ maxLen) (i n cap : Nat) (hin : i + n ≤ l.length) (hc : n ≤ cap) (hl : cap ≤ 9223372036854775807) :
    Rd A w [.slice (some ⟨b, i, none⟩) n cap] (.l 1 (((l.drop i).take n).map .s)) := by
  have e : (((l.drop i).take n).map Dat.s).length = n := by rw [List.length_map, List.length_take, List.length_drop]; omega
  have hm : ∀ (k : Nat) (x : Dat), (((l.drop i).take n).map Dat.s)[k]? = some x → ∃ y, l[i + k]? = some y ∧ x = Dat.s y := fun k x hk => by
    rw [List.getElem?_map] at hk
    obtain ⟨y, hy, rfl⟩ := Option.map_eq_some_iff.1 hk
    rw [List.getElem?_take] at hy
    split at hy
    · rw [List.getElem?_drop] at hy; exact ⟨y, hy, rfl⟩
    · cases hy
  have := Rd.list (A := A) (w := w) (sz := 1) (xs := ((l.drop i).take n).map Dat.s) (some ⟨b, i, none⟩) cap b i (fun k => [.string (l.getD (i + k) ByteArray.empty)]) (by rw [e]; exact hc) hl (fun _ => ⟨rfl, hA, lt_of_heap h⟩) (fun _ _ _ => rfl)
    (fun k x hk j u hu => by
      obtain ⟨y, hy, rfl⟩ := hm k x hk
      match j, hu with
      | 0, hu =>
        simp only [List.getElem?_cons_zero, Option.some.injEq] at hu
        rw [show (⟨b, i + k * 1 + 0, none⟩ : Addr) = at_ b (i + k) by simp, cell_of_blk h]
        simp [hy, ← hu, List.getD_eq_getElem?_getD])
    (fun k x hk => by
      obtain ⟨y, hy, rfl⟩ := hm k x hk
      rw [List.getD_eq_getElem?_getD, hy]
      exact .str y (hi y (List.mem_of_getElem? hy)))
  rw [e] at this
  exact this
theorem kinds_size : ∀ n ∈ kinds, n.size ≤ maxLen := by
  intro n hn
  have h1 : ∀ x ∈ kinds, x.size ≤ 100 := by decide
  have := h1 n hn
  unfold maxLen
  omega
/-- What may stand before a line. -/
def Follows (w : World) (l : List ByteArray) (e : Ending) (w' : World) : Prop := ∃ v, e = .returned v ∧ Rd (fun b => w.heap.size ≤ b) w' [v] (.l 1 (l.map .s)) ∧ Ext Nope w w'
set_option maxHeartbeats 1000000 in
/-- source.follows of 'glyph' -/
theorem follows_glyph {w : World} (G : Glob w) : Calls Tryz.prog 22 #[.string k_glyph] w (Follows w ((kinds.drop 0).take 13)) := by
  have HF := toHid (fields_kinds G)
  clear G
  go_enter Tryz.func22, Tryz.ntmps22
  go_wp2_with fail
  refine HF.out.mono ?_
  rintro e w2 ⟨rfl, rfl⟩
  have hb := heap_alloc_new w (.cells (kinds.map Value.string).toArray 9)
  have e1 : Ext Nope w (w.alloc (.cells (kinds.map Value.string).toArray 9)) := (Ext.refl _ _).alloc _
  have hz : (w.alloc (.cells (kinds.map Value.string).toArray 9)).heap.size = w.heap.size + 1 := by simp
  generalize w.alloc (.cells (kinds.map Value.string).toArray 9) = w2 at *
  have H1 := toHid (show _ ∧ _ ∧ _ from ⟨hb, e1, hz⟩)
  clear hb e1 hz HF
  go_wp2_with fail
  have e2 : Ext Nope w (w2.alloc (.cells #[.slice (some ⟨w.heap.size, 0, none⟩) 14 14] 59)) := H1.out.2.1.alloc _
  have hb2 := (heap_alloc_old w2 (.cells #[.slice (some ⟨w.heap.size, 0, none⟩) 14 14] 59) w.heap.size (by have := H1.out.2.2; omega)).trans H1.out.1
  have H2 := toHid (show _ ∧ _ from ⟨hb2, e2⟩)
  refine (from_calls (b := w.heap.size) (m := w2.heap.size) hb2 (by rw [show (⟨w2.heap.size, 0, none⟩ : Addr) = at_ w2.heap.size 0 from rfl, cell_of_blk (heap_alloc_new w2 _)]; rfl) k_font k_root 0 13 (by decide) (by decide) (by decide) (by decide)).mono ?_
  rintro e w3 ⟨rfl, rfl⟩
  clear hb2 e2
  go_wp2
  go_ret
  exact ⟨_, rfl, (Rd.strsAt (l := kinds) H2.out.1 (Nat.le_refl _) kinds_size 0 13 14 (by decide) (by decide) (by decide)).ext0 (Ext.refl Nope _).drew, H2.out.2.drew⟩
set_option maxHeartbeats 1000000 in
/-- source.follows of 'lookup' -/
theorem follows_lookup {w : World} (G : Glob w) : Calls Tryz.prog 22 #[.string k_lookup] w (Follows w ((kinds.drop 0).take 5)) := by
  have HF := toHid (fields_kinds G)
  clear G
  go_enter Tryz.func22, Tryz.ntmps22
  go_wp2_with fail
  refine HF.out.mono ?_
  rintro e w2 ⟨rfl, rfl⟩
  have hb := heap_alloc_new w (.cells (kinds.map Value.string).toArray 9)
  have e1 : Ext Nope w (w.alloc (.cells (kinds.map Value.string).toArray 9)) := (Ext.refl _ _).alloc _
  have hz : (w.alloc (.cells (kinds.map Value.string).toArray 9)).heap.size = w.heap.size + 1 := by simp
  generalize w.alloc (.cells (kinds.map Value.string).toArray 9) = w2 at *
  have H1 := toHid (show _ ∧ _ ∧ _ from ⟨hb, e1, hz⟩)
  clear hb e1 hz HF
  go_wp2_with fail
  have e2 : Ext Nope w (w2.alloc (.cells #[.slice (some ⟨w.heap.size, 0, none⟩) 14 14] 59)) := H1.out.2.1.alloc _
  have hb2 := (heap_alloc_old w2 (.cells #[.slice (some ⟨w.heap.size, 0, none⟩) 14 14] 59) w.heap.size (by have := H1.out.2.2; omega)).trans H1.out.1
  have H2 := toHid (show _ ∧ _ from ⟨hb2, e2⟩)
  refine (from_calls (b := w.heap.size) (m := w2.heap.size) hb2 (by rw [show (⟨w2.heap.size, 0, none⟩ : Addr) = at_ w2.heap.size 0 from rfl, cell_of_blk (heap_alloc_new w2 _)]; rfl) k_font k_char 0 5 (by decide) (by decide) (by decide) (by decide)).mono ?_
  rintro e w3 ⟨rfl, rfl⟩
  clear hb2 e2
  go_wp2
  go_ret
  exact ⟨_, rfl, (Rd.strsAt (l := kinds) H2.out.1 (Nat.le_refl _) kinds_size 0 5 14 (by decide) (by decide) (by decide)).ext0 (Ext.refl Nope _).drew, H2.out.2.drew⟩
set_option maxHeartbeats 1000000 in
/-- source.follows of 'rule' -/
theorem follows_rule {w : World} (G : Glob w) : Calls Tryz.prog 22 #[.string k_rule] w (Follows w ((kinds.drop 3).take 2)) := by
  have HF := toHid (fields_kinds G)
  clear G
  go_enter Tryz.func22, Tryz.ntmps22
  go_wp2_with fail
  refine HF.out.mono ?_
  rintro e w2 ⟨rfl, rfl⟩
  have hb := heap_alloc_new w (.cells (kinds.map Value.string).toArray 9)
  have e1 : Ext Nope w (w.alloc (.cells (kinds.map Value.string).toArray 9)) := (Ext.refl _ _).alloc _
  have hz : (w.alloc (.cells (kinds.map Value.string).toArray 9)).heap.size = w.heap.size + 1 := by simp
  generalize w.alloc (.cells (kinds.map Value.string).toArray 9) = w2 at *
  have H1 := toHid (show _ ∧ _ ∧ _ from ⟨hb, e1, hz⟩)
  clear hb e1 hz HF
  go_wp2_with fail
  have e2 : Ext Nope w (w2.alloc (.cells #[.slice (some ⟨w.heap.size, 0, none⟩) 14 14] 59)) := H1.out.2.1.alloc _
  have hb2 := (heap_alloc_old w2 (.cells #[.slice (some ⟨w.heap.size, 0, none⟩) 14 14] 59) w.heap.size (by have := H1.out.2.2; omega)).trans H1.out.1
  have H2 := toHid (show _ ∧ _ from ⟨hb2, e2⟩)
  refine (from_calls (b := w.heap.size) (m := w2.heap.size) hb2 (by rw [show (⟨w2.heap.size, 0, none⟩ : Addr) = at_ w2.heap.size 0 from rfl, cell_of_blk (heap_alloc_new w2 _)]; rfl) k_lookup k_char 3 5 (by decide) (by decide) (by decide) (by decide)).mono ?_
  rintro e w3 ⟨rfl, rfl⟩
  clear hb2 e2
  go_wp2
  go_ret
  exact ⟨_, rfl, (Rd.strsAt (l := kinds) H2.out.1 (Nat.le_refl _) kinds_size 3 2 11 (by decide) (by decide) (by decide)).ext0 (Ext.refl Nope _).drew, H2.out.2.drew⟩
set_option maxHeartbeats 1000000 in
/-- source.follows of 'program' -/
theorem follows_program {w : World} (G : Glob w) : Calls Tryz.prog 22 #[.string k_program] w (Follows w ((kinds.drop 7).take 5)) := by
  have HF := toHid (fields_kinds G)
  clear G
  go_enter Tryz.func22, Tryz.ntmps22
  go_wp2_with fail
  refine HF.out.mono ?_
  rintro e w2 ⟨rfl, rfl⟩
  have hb := heap_alloc_new w (.cells (kinds.map Value.string).toArray 9)
  have e1 : Ext Nope w (w.alloc (.cells (kinds.map Value.string).toArray 9)) := (Ext.refl _ _).alloc _
  have hz : (w.alloc (.cells (kinds.map Value.string).toArray 9)).heap.size = w.heap.size + 1 := by simp
  generalize w.alloc (.cells (kinds.map Value.string).toArray 9) = w2 at *
  have H1 := toHid (show _ ∧ _ ∧ _ from ⟨hb, e1, hz⟩)
  clear hb e1 hz HF
  go_wp2_with fail
  have e2 : Ext Nope w (w2.alloc (.cells #[.slice (some ⟨w.heap.size, 0, none⟩) 14 14] 59)) := H1.out.2.1.alloc _
  have hb2 := (heap_alloc_old w2 (.cells #[.slice (some ⟨w.heap.size, 0, none⟩) 14 14] 59) w.heap.size (by have := H1.out.2.2; omega)).trans H1.out.1
  have H2 := toHid (show _ ∧ _ from ⟨hb2, e2⟩)
  refine (from_calls (b := w.heap.size) (m := w2.heap.size) hb2 (by rw [show (⟨w2.heap.size, 0, none⟩ : Addr) = at_ w2.heap.size 0 from rfl, cell_of_blk (heap_alloc_new w2 _)]; rfl) k_glyph k_program 7 12 (by decide) (by decide) (by decide) (by decide)).mono ?_
  rintro e w3 ⟨rfl, rfl⟩
  clear hb2 e2
  go_wp2
  go_ret
  exact ⟨_, rfl, (Rd.strsAt (l := kinds) H2.out.1 (Nat.le_refl _) kinds_size 7 5 7 (by decide) (by decide) (by decide)).ext0 (Ext.refl Nope _).drew, H2.out.2.drew⟩
set_option maxHeartbeats 1000000 in
/-- source.follows of 'contour' -/
theorem follows_contour {w : World} (G : Glob w) : Calls Tryz.prog 22 #[.string k_contour] w (Follows w ((kinds.drop 7).take 2)) := by
  have HF := toHid (fields_kinds G)
  clear G
  go_enter Tryz.func22, Tryz.ntmps22
  go_wp2_with fail
  refine HF.out.mono ?_
  rintro e w2 ⟨rfl, rfl⟩
  have hb := heap_alloc_new w (.cells (kinds.map Value.string).toArray 9)
  have e1 : Ext Nope w (w.alloc (.cells (kinds.map Value.string).toArray 9)) := (Ext.refl _ _).alloc _
  have hz : (w.alloc (.cells (kinds.map Value.string).toArray 9)).heap.size = w.heap.size + 1 := by simp
  generalize w.alloc (.cells (kinds.map Value.string).toArray 9) = w2 at *
  have H1 := toHid (show _ ∧ _ ∧ _ from ⟨hb, e1, hz⟩)
  clear hb e1 hz HF
  go_wp2_with fail
  have e2 : Ext Nope w (w2.alloc (.cells #[.slice (some ⟨w.heap.size, 0, none⟩) 14 14] 59)) := H1.out.2.1.alloc _
  have hb2 := (heap_alloc_old w2 (.cells #[.slice (some ⟨w.heap.size, 0, none⟩) 14 14] 59) w.heap.size (by have := H1.out.2.2; omega)).trans H1.out.1
  have H2 := toHid (show _ ∧ _ from ⟨hb2, e2⟩)
  refine (from_calls (b := w.heap.size) (m := w2.heap.size) hb2 (by rw [show (⟨w2.heap.size, 0, none⟩ : Addr) = at_ w2.heap.size 0 from rfl, cell_of_blk (heap_alloc_new w2 _)]; rfl) k_glyph k_contour 7 8 (by decide) (by decide) (by decide) (by decide)).mono ?_
  rintro e w3 ⟨rfl, rfl⟩
  clear hb2 e2
  have hlt : w.heap.size < w2.heap.size := by have := H1.out.2.2; omega
  have c8 : w2.cell? ⟨w.heap.size, 8, none⟩ = some (.string k_contour) := by rw [show (⟨w.heap.size, 8, none⟩ : Addr) = at_ w.heap.size 8 from rfl, cell_of_blk H1.out.1]; rfl
  have f8 : w2.frozen? ⟨w.heap.size, 8, none⟩ = false := free_of_blk H1.out.1 8
  go_wp2
  go_ret
  have hs := heap_setCell_eq w2 w.heap.size 8 (.string k_contour) _ _ _ H1.out.1
  rw [show (kinds.map Value.string).toArray.setIfInBounds 8 (.string k_contour) = (kinds.map Value.string).toArray from rfl] at hs
  have hx : Ext Nope w (w2.setCell ⟨w.heap.size, 8, none⟩ (.string k_contour)) := Ext.setCell (S := Nope) H1.out.2.1 _ 8 (fun z => absurd z (by omega)) _
  exact ⟨_, rfl, (Rd.strsAt (l := kinds) hs (Nat.le_refl _) kinds_size 7 (1 + 1) 7 (by decide) (by decide) (by decide)).ext0 ((((Ext.refl Nope _).alloc _).alloc _).drew), ((hx.alloc _).alloc _).drew⟩
set_option maxHeartbeats 1000000 in
/-- source.follows of 'char' -/
theorem follows_char {w : World} (G : Glob w) : Calls Tryz.prog 22 #[.string k_char] w (Follows w ((kinds.drop 0).take 6)) := by
  have HF := toHid (fields_kinds G)
  clear G
  go_enter Tryz.func22, Tryz.ntmps22
  go_wp2_with fail
  refine HF.out.mono ?_
  rintro e w2 ⟨rfl, rfl⟩
  have hb := heap_alloc_new w (.cells (kinds.map Value.string).toArray 9)
  have e1 : Ext Nope w (w.alloc (.cells (kinds.map Value.string).toArray 9)) := (Ext.refl _ _).alloc _
  have hz : (w.alloc (.cells (kinds.map Value.string).toArray 9)).heap.size = w.heap.size + 1 := by simp
  generalize w.alloc (.cells (kinds.map Value.string).toArray 9) = w2 at *
  have H1 := toHid (show _ ∧ _ ∧ _ from ⟨hb, e1, hz⟩)
  clear hb e1 hz HF
  go_wp2_with fail
  have e2 : Ext Nope w (w2.alloc (.cells #[.slice (some ⟨w.heap.size, 0, none⟩) 14 14] 59)) := H1.out.2.1.alloc _
  have hb2 := (heap_alloc_old w2 (.cells #[.slice (some ⟨w.heap.size, 0, none⟩) 14 14] 59) w.heap.size (by have := H1.out.2.2; omega)).trans H1.out.1
  have H2 := toHid (show _ ∧ _ from ⟨hb2, e2⟩)
  refine (from_calls (b := w.heap.size) (m := w2.heap.size) hb2 (by rw [show (⟨w2.heap.size, 0, none⟩ : Addr) = at_ w2.heap.size 0 from rfl, cell_of_blk (heap_alloc_new w2 _)]; rfl) k_font k_char 0 5 (by decide) (by decide) (by decide) (by decide)).mono ?_
  rintro e w3 ⟨rfl, rfl⟩
  clear hb2 e2
  have hlt : w.heap.size < w2.heap.size := by have := H1.out.2.2; omega
  have c8 : w2.cell? ⟨w.heap.size, 5, none⟩ = some (.string k_char) := by rw [show (⟨w.heap.size, 5, none⟩ : Addr) = at_ w.heap.size 5 from rfl, cell_of_blk H1.out.1]; rfl
  have f8 : w2.frozen? ⟨w.heap.size, 5, none⟩ = false := free_of_blk H1.out.1 5
  go_wp2
  go_ret
  have hs := heap_setCell_eq w2 w.heap.size 5 (.string k_char) _ _ _ H1.out.1
  rw [show (kinds.map Value.string).toArray.setIfInBounds 5 (.string k_char) = (kinds.map Value.string).toArray from rfl] at hs
  have hx : Ext Nope w (w2.setCell ⟨w.heap.size, 5, none⟩ (.string k_char)) := Ext.setCell (S := Nope) H1.out.2.1 _ 5 (fun z => absurd z (by omega)) _
  exact ⟨_, rfl, (Rd.strsAt (l := kinds) hs (Nat.le_refl _) kinds_size 0 (5 + 1) 14 (by decide) (by decide) (by decide)).ext0 ((((Ext.refl Nope _).alloc _).alloc _).drew), ((hx.alloc _).alloc _).drew⟩
/-- source.follows of 'font' -/
theorem follows_font {w : World} (G : Glob w) : Calls Tryz.prog 22 #[.string k_font] w (Follows w [k_none]) := by
  have HF := toHid (fields_kinds G)
  clear G
  go_enter Tryz.func22, Tryz.ntmps22
  go_wp2_with fail
  refine HF.out.mono ?_
  rintro e w2 ⟨rfl, rfl⟩
  have e1 : Ext Nope w (w.alloc (.cells (kinds.map Value.string).toArray 9)) := (Ext.refl _ _).alloc _
  have hz : (w.alloc (.cells (kinds.map Value.string).toArray 9)).heap.size = w.heap.size + 1 := by simp
  generalize w.alloc (.cells (kinds.map Value.string).toArray 9) = w2 at *
  have H1 := toHid (show _ ∧ _ from ⟨e1, hz⟩)
  clear e1 hz HF
  go_wp2
  go_ret
  have hb := heap_alloc_at (w2.alloc (.cells #[.slice (some ⟨w.heap.size, 0, none⟩) 14 14] 59)) (.cells #[.string k_none] 9) (w2.heap.size + 1) (by simp)
  exact ⟨_, rfl, Rd.strs (l := [k_none]) hb (by have := H1.out.2; omega) (fun n hn => by simp at hn; subst hn; decide) 1 (by decide) (by decide), (H1.out.1.alloc _).alloc _⟩
end Go.Proofs.YtajebdpalnpjdaaGreatDoor
