/-
  The instructions of a program, read from a line.
  The line of a program.
  A line that stands at a wrong place.
-/
import Derived.Test.YtajebdpalnpjdaaGreatDoorM23
import Derived.Test.YtajebdpalnpjdaaGreatDoorM19
import Derived.Test.YtajebdpalnpjdaaGreatDoorM10
import Derived.Test.YtajebdpalnpjdaaGreatDoorM15
namespace Go.Proofs.YtajebdpalnpjdaaGreatDoor
open Go.RowKit
attribute [local go_sem] alloc_drewN setCell_drewN

abbrev i_push : ByteArray := ⟨#[112, 117, 115, 104]⟩
abbrev i_pop : ByteArray := ⟨#[112, 111, 112]⟩
abbrev i_dup : ByteArray := ⟨#[100, 117, 112]⟩
abbrev i_swap : ByteArray := ⟨#[115, 119, 97, 112]⟩
abbrev i_add : ByteArray := ⟨#[97, 100, 100]⟩
abbrev i_sub : ByteArray := ⟨#[115, 117, 98]⟩
abbrev i_mul : ByteArray := ⟨#[109, 117, 108]⟩
abbrev i_neg : ByteArray := ⟨#[110, 101, 103]⟩
abbrev i_min : ByteArray := ⟨#[109, 105, 110]⟩
abbrev i_max : ByteArray := ⟨#[109, 97, 120]⟩
abbrev i_less : ByteArray := ⟨#[108, 101, 115, 115]⟩
abbrev i_round : ByteArray := ⟨#[114, 111, 117, 110, 100]⟩
abbrev i_size : ByteArray := ⟨#[115, 105, 122, 101]⟩
abbrev i_axis : ByteArray := ⟨#[97, 120, 105, 115]⟩
abbrev i_getx : ByteArray := ⟨#[103, 101, 116, 120]⟩
abbrev i_gety : ByteArray := ⟨#[103, 101, 116, 121]⟩
abbrev i_setx : ByteArray := ⟨#[115, 101, 116, 120]⟩
abbrev i_sety : ByteArray := ⟨#[115, 101, 116, 121]⟩
abbrev i_at : ByteArray := ⟨#[97, 116]⟩
abbrev i_move : ByteArray := ⟨#[109, 111, 118, 101]⟩
abbrev i_load : ByteArray := ⟨#[108, 111, 97, 100]⟩
abbrev i_store : ByteArray := ⟨#[115, 116, 111, 114, 101]⟩
abbrev i_if : ByteArray := ⟨#[105, 102]⟩
abbrev i_else : ByteArray := ⟨#[101, 108, 115, 101]⟩
abbrev i_end : ByteArray := ⟨#[101, 110, 100]⟩
abbrev i_loop : ByteArray := ⟨#[108, 111, 111, 112]⟩
def kwords : List ByteArray := [i_push, i_pop, i_dup, i_swap, i_add, i_sub, i_mul, i_neg, i_min, i_max, i_less, i_round, i_size, i_axis, i_getx, i_gety, i_setx, i_sety, i_at, i_move, i_load, i_store, i_if, i_else, i_end, i_loop]
def kwordsText : ByteArray := ⟨#[112, 117, 115, 104, 32, 112, 111, 112, 32, 100, 117, 112, 32, 115, 119, 97, 112, 32, 97, 100, 100, 32, 115, 117, 98, 32, 109, 117, 108, 32, 110, 101, 103, 32, 109, 105, 110, 32, 109, 97, 120, 32, 108, 101, 115, 115, 32, 114, 111, 117, 110, 100, 32, 115, 105, 122, 101, 32, 97, 120, 105, 115, 32, 103, 101, 116, 120, 32, 103, 101, 116, 121, 32, 115, 101, 116, 120, 32, 115, 101, 116, 121, 32, 97, 116, 32, 109, 111, 118, 101, 32, 108, 111, 97, 100, 32, 115, 116, 111, 114, 101, 32, 105, 102, 32, 101, 108, 115, 101, 32, 101, 110, 100, 32, 108, 111, 111, 112]⟩
theorem kwords_fields : (Lib.fields kwordsText.data.toList).map (fun l => Value.string ⟨l.toArray⟩) = kwords.map Value.string := by kernel_rfl
theorem kwords_length : (Lib.fields kwordsText.data.toList).length = 26 := by kernel_rfl
theorem kwords_ascii : ∀ (j : Nat) b, kwordsText.data.toList[j]? = some b → b.toNat < 128 := by
  intro j b h
  have h1 : ∀ c ∈ kwordsText.data.toList, c.toNat < 128 := by decide
  exact h1 b (List.mem_of_getElem? h)
theorem fields_words {w : World} (G : Glob w) : Calls Tryz.prog 23 #[.string kwordsText] w fun e w' => e = .returned (.slice (some ⟨w.heap.size, 0, none⟩) 26 26) ∧ w' = w.alloc (.cells (kwords.map Value.string).toArray 9) := by
  refine (Tryz.strings_Fields_laid kwordsText w (by decide) kwords_ascii G.spc).mono ?_
  rintro e w' ⟨rfl, rfl⟩
  rw [kwords_length, kwords_fields]
  exact ⟨rfl, rfl⟩
theorem index_words {w : World} {b : Nat} (hb : w.heap[b]? = some (.cells (kwords.map Value.string).toArray 9 (0, 0))) (x : ByteArray) (i : Int) (hi : Lib.idxOfS kwords x = i) : Calls Tryz.prog 53 #[.slice (some ⟨b, 0, none⟩) 26 26, .string x] w fun e w' => e = .returned (.int .i64 i) ∧ w = w' := by
  have h := Tryz.slices_Index_string b 0 26 26 kwords x w (by decide) (by decide) (fun j hj => by
    rw [show (⟨b, 0 + j, none⟩ : Addr) = at_ b j by simp, cell_of_blk hb]
    simp [List.getD_eq_getElem?_getD, hj])
  rw [show kwords.take 26 = kwords from rfl, hi] at h
  exact h.mono fun e w' ⟨h1, h2⟩ => ⟨h1, h2.symm⟩
set_option maxHeartbeats 1000000 in
/-- words -/
theorem words_calls {w : World} (G : Glob w) : Calls Tryz.prog 108 #[] w fun e w' => e = .returned (.slice (some ⟨w.heap.size, 0, none⟩) 26 26) ∧ w'.heap[w.heap.size]? = some (.cells (kwords.map Value.string).toArray 9 (0, 0)) ∧ Ext Nope w w' := by
  have HF := toHid (fields_words G)
  unfold kwordsText at HF
  go_enter Tryz.func108, Tryz.ntmps108
  go_wp2_with fail
  refine HF.out.mono ?_
  rintro e w2 ⟨rfl, rfl⟩
  go_wp2_with fail
  go_ret
  exact ⟨rfl, heap_alloc_new _ _, (Ext.refl _ _).alloc _⟩
set_option maxHeartbeats 1000000 in
theorem numbered_1 (w : World) : Calls Tryz.prog 111 #[.int .i64 1] w fun e w' => e = .returned (.bool true) ∧ w = w' := by
  go_enter Tryz.func111, Tryz.ntmps111
  go_wp2_with fail
  go_ret
  exact ⟨rfl, rfl⟩
set_option maxHeartbeats 1000000 in
theorem numbered_17 (w : World) : Calls Tryz.prog 111 #[.int .i64 17] w fun e w' => e = .returned (.bool true) ∧ w = w' := by
  go_enter Tryz.func111, Tryz.ntmps111
  go_wp2_with fail
  go_ret
  exact ⟨rfl, rfl⟩
set_option maxHeartbeats 1000000 in
theorem numbered_23 (w : World) : Calls Tryz.prog 111 #[.int .i64 23] w fun e w' => e = .returned (.bool false) ∧ w = w' := by
  go_enter Tryz.func111, Tryz.ntmps111
  go_wp2_with fail
  go_ret
  exact ⟨rfl, rfl⟩
/-- An instruction of the two programs, as words. -/
def insW (x : Int × Int) : ByteArray := if x.1 = 1 then i_push else if x.1 = 17 then i_setx else i_if
def insR (x : Int × Int) : List ByteArray := if x.1 = 1 ∨ x.1 = 17 then [num x.2] else []
def InsOK (x : Int × Int) : Prop := x = (1, 5) ∨ x = (17, 1) ∨ x = (23, 0)
theorem ins_cells {w : World} {b : Nat} {x y : Value} {T : Nat} (h : w.heap[b]? = some (.cells #[x, y] T (0, 0))) : w.cell? ⟨b, 0, none⟩ = some x ∧ w.cell? ⟨b, 1, none⟩ = some y ∧ w.frozen? ⟨b, 0, none⟩ = false ∧ w.frozen? ⟨b, 1, none⟩ = false := by
  refine ⟨?_, ?_, free_of_blk h 0, free_of_blk h 1⟩ <;> (rw [show ∀ j, (⟨b, j, none⟩ : Addr) = at_ b j from fun _ => rfl, cell_of_blk h]; rfl)
set_option maxRecDepth 100000 in
set_option maxHeartbeats 4000000 in
/-- 'push' -/
theorem read_push {w : World} (G : Glob w) {rb bx ab kb : Nat} {B : Nat → Prop} {cs : List Value} {more : List ByteArray} (hb : 11 ≤ rb) (hB : ∀ b, B b → b < w.heap.size) (h : RL w rb B cs (num 5 :: more)) (hbx : w.heap[bx]? = some (.cells #[ptr rb] 58 (0, 0))) (hab : w.heap[ab]? = some (.cells #[.slice (some ⟨kb, 0, none⟩) 26 26] 59 (0, 0))) (hkb : w.heap[kb]? = some (.cells (kwords.map Value.string).toArray 9 (0, 0))) :
    Calls Tryz.prog 134 #[.string i_push, ptr ab, ptr bx] w fun e w' => e = .returned (.agg #[.int .i64 1, .int .i64 5]) ∧ RL w' rb B cs more ∧ Ext (fun b => b = rb) w w' := by
  have HG := toHid G
  have HL := toHid h
  have HIx := toHid (fun W (e : Ext Nope w W) => index_words (w := W) (b := kb) ((e.block _ (lt_of_heap hkb) (fun z => z)).trans hkb) i_push 0 (by kernel_rfl))
  have HBX := toHid hbx
  have hlr := h.lt
  have hla := lt_of_heap hab
  have cab : w.cell? ⟨ab, 0, none⟩ = some (.slice (some ⟨kb, 0, none⟩) 26 26) := by rw [show (⟨ab, 0, none⟩ : Addr) = at_ ab 0 from rfl, cell_of_blk hab]; rfl
  have s1 : IntKind.i64.wrap (1 + 0) = 1 := rfl
  clear G h hkb hbx hab
  go_enter Tryz.func134, Tryz.ntmps134
  go_wp2_with fail
  refine (HIx.out _ ((Ext.refl _ _).alloc _)).mono ?_
  rintro e w2 ⟨rfl, rfl⟩
  have e1 : Ext Nope w ((w.alloc (.cells #[.int .i64 0, .int .i64 0] 194)).alloc (.cells #[.int .i64 1, .int .i64 0] 194)) := ((Ext.refl _ _).alloc _).alloc _
  have hr0 : ((w.alloc (.cells #[.int .i64 0, .int .i64 0] 194)).alloc (.cells #[.int .i64 1, .int .i64 0] 194)).heap[w.heap.size]? = some (.cells #[.int .i64 0, .int .i64 0] 194 (0, 0)) := (heap_alloc_old _ _ _ (by simp)).trans (heap_alloc_new _ _)
  have hx0 : ((w.alloc (.cells #[.int .i64 0, .int .i64 0] 194)).alloc (.cells #[.int .i64 1, .int .i64 0] 194)).heap[w.heap.size + 1]? = some (.cells #[.int .i64 1, .int .i64 0] 194 (0, 0)) := heap_alloc_at _ _ _ (by simp)
  have H1 := toHid (show _ ∧ _ ∧ _ ∧ _ ∧ _ ∧ _ from ⟨e1, hr0, hx0, (e1.block _ (lt_of_heap HBX.out) (fun z => z)).trans HBX.out, HL.out.ext0 e1, HG.out.ext0 e1⟩)
  clear e1 hr0 hx0
  go_wp2_with fail
  refine (need_yes _).mono ?_
  rintro e w3 ⟨rfl, rfl⟩
  go_wp2_with fail
  refine (numbered_1 _).mono ?_
  rintro e w3 ⟨rfl, rfl⟩
  have hxl := lt_of_heap H1.out.2.2.2.1
  have cbx : ((w.alloc (.cells #[.int .i64 0, .int .i64 0] 194)).alloc (.cells #[.int .i64 1, .int .i64 0] 194)).cell? ⟨bx, 0, none⟩ = some (ptr rb) := by rw [show (⟨bx, 0, none⟩ : Addr) = at_ bx 0 from rfl, cell_of_blk H1.out.2.2.2.1]; rfl
  obtain ⟨R, HR⟩ : ∃ R, Hid (w.heap.size = R) := ⟨_, rfl⟩
  rw [HR.out] at H1 ⊢
  generalize (w.alloc (.cells #[.int .i64 0, .int .i64 0] 194)).alloc (.cells #[.int .i64 1, .int .i64 0] 194) = w1 at *
  obtain ⟨x0, x1, f0, f1⟩ := ins_cells H1.out.2.2.1
  obtain ⟨y0, y1, g0, g1⟩ := ins_cells H1.out.2.1
  go_wp2_with fail
  refine (number_ok H1.out.2.2.2.2.2 hb H1.out.2.2.2.2.1 (by omega) (by omega)).mono ?_
  rintro e w4 ⟨rfl, r4, e4⟩
  have hrR : rb < R := by have := HR.out; omega
  have h4x := (e4.block _ (lt_of_heap H1.out.2.2.1) (fun z => by have z : R + 1 = rb := z; omega)).trans H1.out.2.2.1
  have h4r := (e4.block _ (lt_of_heap H1.out.2.1) (fun z => by have z : R = rb := z; omega)).trans H1.out.2.1
  have H4 := toHid (show _ ∧ _ from ⟨r4, (ext1 H1.out.1 e4 : Ext (fun b => b = rb) w w4)⟩)
  clear r4 e4 x0 x1 f0 f1 y0 y1 g0 g1 cbx
  obtain ⟨x0, x1, f0, f1⟩ := ins_cells h4x
  obtain ⟨y0, y1, g0, g1⟩ := ins_cells h4r
  go_wp2_with fail
  have hF : (((w4.setCell ⟨R + 1, 1, none⟩ (.int .i64 5)).setCell ⟨R, 0, none⟩ (.int .i64 1)).setCell ⟨R, 1, none⟩ (.int .i64 5)).heap[R]? = some (.cells #[.int .i64 1, .int .i64 5] 194 (0, 0)) := heap_setCell_eq _ R 1 _ _ _ _ (heap_setCell_eq _ R 0 _ _ _ _ ((heap_setCell_ne _ _ _ _ _ (by omega)).trans h4r))
  have rF := H4.out.1.ext (Ext.setCell (S := fun b => b = R ∨ b = R + 1) (Ext.setCell (S := fun b => b = R ∨ b = R + 1) (Ext.setCell (S := fun b => b = R ∨ b = R + 1) (Ext.refl _ _) (R + 1) 1 (fun _ => Or.inr rfl) (.int .i64 5)) R 0 (fun _ => Or.inl rfl) (.int .i64 1)) R 1 (fun _ => Or.inl rfl) (.int .i64 5)) (fun z => by rcases z with z | z <;> omega) (fun b hb z => by have := hB b hb.2; have := HR.out; rcases z with z | z <;> omega)
  have eF : Ext (fun b => b = rb) w (((w4.setCell ⟨R + 1, 1, none⟩ (.int .i64 5)).setCell ⟨R, 0, none⟩ (.int .i64 1)).setCell ⟨R, 1, none⟩ (.int .i64 5)) := Ext.setCell (S := fun b => b = rb) (Ext.setCell (S := fun b => b = rb) (Ext.setCell (S := fun b => b = rb) H4.out.2 (R + 1) 1 (fun z => by have := HR.out; omega) _) R 0 (fun z => by have := HR.out; omega) _) R 1 (fun z => by have := HR.out; omega) _
  generalize ((w4.setCell ⟨R + 1, 1, none⟩ (.int .i64 5)).setCell ⟨R, 0, none⟩ (.int .i64 1)).setCell ⟨R, 1, none⟩ (.int .i64 5) = wF at *
  obtain ⟨d0, d1, _, _⟩ := ins_cells hF
  exact bodyPost_ret (v := .agg #[.int .i64 1, .int .i64 5]) (by simp [results, Tryz.results134, go_sem, d0, d1]) rfl ⟨rfl, rF, eF⟩
set_option maxRecDepth 100000 in
set_option maxHeartbeats 4000000 in
/-- 'setx' -/
theorem read_setx {w : World} (G : Glob w) {rb bx ab kb : Nat} {B : Nat → Prop} {cs : List Value} {more : List ByteArray} (hb : 11 ≤ rb) (hB : ∀ b, B b → b < w.heap.size) (h : RL w rb B cs (num 1 :: more)) (hbx : w.heap[bx]? = some (.cells #[ptr rb] 58 (0, 0))) (hab : w.heap[ab]? = some (.cells #[.slice (some ⟨kb, 0, none⟩) 26 26] 59 (0, 0))) (hkb : w.heap[kb]? = some (.cells (kwords.map Value.string).toArray 9 (0, 0))) :
    Calls Tryz.prog 134 #[.string i_setx, ptr ab, ptr bx] w fun e w' => e = .returned (.agg #[.int .i64 17, .int .i64 1]) ∧ RL w' rb B cs more ∧ Ext (fun b => b = rb) w w' := by
  have HG := toHid G
  have HL := toHid h
  have HIx := toHid (fun W (e : Ext Nope w W) => index_words (w := W) (b := kb) ((e.block _ (lt_of_heap hkb) (fun z => z)).trans hkb) i_setx 16 (by kernel_rfl))
  have HBX := toHid hbx
  have hlr := h.lt
  have hla := lt_of_heap hab
  have cab : w.cell? ⟨ab, 0, none⟩ = some (.slice (some ⟨kb, 0, none⟩) 26 26) := by rw [show (⟨ab, 0, none⟩ : Addr) = at_ ab 0 from rfl, cell_of_blk hab]; rfl
  have s1 : IntKind.i64.wrap (1 + 16) = 17 := rfl
  clear G h hkb hbx hab
  go_enter Tryz.func134, Tryz.ntmps134
  go_wp2_with fail
  refine (HIx.out _ ((Ext.refl _ _).alloc _)).mono ?_
  rintro e w2 ⟨rfl, rfl⟩
  have e1 : Ext Nope w ((w.alloc (.cells #[.int .i64 0, .int .i64 0] 194)).alloc (.cells #[.int .i64 17, .int .i64 0] 194)) := ((Ext.refl _ _).alloc _).alloc _
  have hr0 : ((w.alloc (.cells #[.int .i64 0, .int .i64 0] 194)).alloc (.cells #[.int .i64 17, .int .i64 0] 194)).heap[w.heap.size]? = some (.cells #[.int .i64 0, .int .i64 0] 194 (0, 0)) := (heap_alloc_old _ _ _ (by simp)).trans (heap_alloc_new _ _)
  have hx0 : ((w.alloc (.cells #[.int .i64 0, .int .i64 0] 194)).alloc (.cells #[.int .i64 17, .int .i64 0] 194)).heap[w.heap.size + 1]? = some (.cells #[.int .i64 17, .int .i64 0] 194 (0, 0)) := heap_alloc_at _ _ _ (by simp)
  have H1 := toHid (show _ ∧ _ ∧ _ ∧ _ ∧ _ ∧ _ from ⟨e1, hr0, hx0, (e1.block _ (lt_of_heap HBX.out) (fun z => z)).trans HBX.out, HL.out.ext0 e1, HG.out.ext0 e1⟩)
  clear e1 hr0 hx0
  go_wp2_with fail
  refine (need_yes _).mono ?_
  rintro e w3 ⟨rfl, rfl⟩
  go_wp2_with fail
  refine (numbered_17 _).mono ?_
  rintro e w3 ⟨rfl, rfl⟩
  have hxl := lt_of_heap H1.out.2.2.2.1
  have cbx : ((w.alloc (.cells #[.int .i64 0, .int .i64 0] 194)).alloc (.cells #[.int .i64 17, .int .i64 0] 194)).cell? ⟨bx, 0, none⟩ = some (ptr rb) := by rw [show (⟨bx, 0, none⟩ : Addr) = at_ bx 0 from rfl, cell_of_blk H1.out.2.2.2.1]; rfl
  obtain ⟨R, HR⟩ : ∃ R, Hid (w.heap.size = R) := ⟨_, rfl⟩
  rw [HR.out] at H1 ⊢
  generalize (w.alloc (.cells #[.int .i64 0, .int .i64 0] 194)).alloc (.cells #[.int .i64 17, .int .i64 0] 194) = w1 at *
  obtain ⟨x0, x1, f0, f1⟩ := ins_cells H1.out.2.2.1
  obtain ⟨y0, y1, g0, g1⟩ := ins_cells H1.out.2.1
  go_wp2_with fail
  refine (number_ok H1.out.2.2.2.2.2 hb H1.out.2.2.2.2.1 (by omega) (by omega)).mono ?_
  rintro e w4 ⟨rfl, r4, e4⟩
  have hrR : rb < R := by have := HR.out; omega
  have h4x := (e4.block _ (lt_of_heap H1.out.2.2.1) (fun z => by have z : R + 1 = rb := z; omega)).trans H1.out.2.2.1
  have h4r := (e4.block _ (lt_of_heap H1.out.2.1) (fun z => by have z : R = rb := z; omega)).trans H1.out.2.1
  have H4 := toHid (show _ ∧ _ from ⟨r4, (ext1 H1.out.1 e4 : Ext (fun b => b = rb) w w4)⟩)
  clear r4 e4 x0 x1 f0 f1 y0 y1 g0 g1 cbx
  obtain ⟨x0, x1, f0, f1⟩ := ins_cells h4x
  obtain ⟨y0, y1, g0, g1⟩ := ins_cells h4r
  go_wp2_with fail
  have hF : (((w4.setCell ⟨R + 1, 1, none⟩ (.int .i64 1)).setCell ⟨R, 0, none⟩ (.int .i64 17)).setCell ⟨R, 1, none⟩ (.int .i64 1)).heap[R]? = some (.cells #[.int .i64 17, .int .i64 1] 194 (0, 0)) := heap_setCell_eq _ R 1 _ _ _ _ (heap_setCell_eq _ R 0 _ _ _ _ ((heap_setCell_ne _ _ _ _ _ (by omega)).trans h4r))
  have rF := H4.out.1.ext (Ext.setCell (S := fun b => b = R ∨ b = R + 1) (Ext.setCell (S := fun b => b = R ∨ b = R + 1) (Ext.setCell (S := fun b => b = R ∨ b = R + 1) (Ext.refl _ _) (R + 1) 1 (fun _ => Or.inr rfl) (.int .i64 1)) R 0 (fun _ => Or.inl rfl) (.int .i64 17)) R 1 (fun _ => Or.inl rfl) (.int .i64 1)) (fun z => by rcases z with z | z <;> omega) (fun b hb z => by have := hB b hb.2; have := HR.out; rcases z with z | z <;> omega)
  have eF : Ext (fun b => b = rb) w (((w4.setCell ⟨R + 1, 1, none⟩ (.int .i64 1)).setCell ⟨R, 0, none⟩ (.int .i64 17)).setCell ⟨R, 1, none⟩ (.int .i64 1)) := Ext.setCell (S := fun b => b = rb) (Ext.setCell (S := fun b => b = rb) (Ext.setCell (S := fun b => b = rb) H4.out.2 (R + 1) 1 (fun z => by have := HR.out; omega) _) R 0 (fun z => by have := HR.out; omega) _) R 1 (fun z => by have := HR.out; omega) _
  generalize ((w4.setCell ⟨R + 1, 1, none⟩ (.int .i64 1)).setCell ⟨R, 0, none⟩ (.int .i64 17)).setCell ⟨R, 1, none⟩ (.int .i64 1) = wF at *
  obtain ⟨d0, d1, _, _⟩ := ins_cells hF
  exact bodyPost_ret (v := .agg #[.int .i64 17, .int .i64 1]) (by simp [results, Tryz.results134, go_sem, d0, d1]) rfl ⟨rfl, rF, eF⟩
set_option maxRecDepth 100000 in
set_option maxHeartbeats 4000000 in
/-- 'if' -/
theorem read_if {w : World} (G : Glob w) {rb bx ab kb : Nat} {B : Nat → Prop} {cs : List Value} {more : List ByteArray} (hb : 11 ≤ rb) (hB : ∀ b, B b → b < w.heap.size) (h : RL w rb B cs (more)) (hbx : w.heap[bx]? = some (.cells #[ptr rb] 58 (0, 0))) (hab : w.heap[ab]? = some (.cells #[.slice (some ⟨kb, 0, none⟩) 26 26] 59 (0, 0))) (hkb : w.heap[kb]? = some (.cells (kwords.map Value.string).toArray 9 (0, 0))) :
    Calls Tryz.prog 134 #[.string i_if, ptr ab, ptr bx] w fun e w' => e = .returned (.agg #[.int .i64 23, .int .i64 0]) ∧ RL w' rb B cs more ∧ Ext (fun b => b = rb) w w' := by
  have HG := toHid G
  have HL := toHid h
  have HIx := toHid (fun W (e : Ext Nope w W) => index_words (w := W) (b := kb) ((e.block _ (lt_of_heap hkb) (fun z => z)).trans hkb) i_if 22 (by kernel_rfl))
  have HBX := toHid hbx
  have hlr := h.lt
  have hla := lt_of_heap hab
  have cab : w.cell? ⟨ab, 0, none⟩ = some (.slice (some ⟨kb, 0, none⟩) 26 26) := by rw [show (⟨ab, 0, none⟩ : Addr) = at_ ab 0 from rfl, cell_of_blk hab]; rfl
  have s1 : IntKind.i64.wrap (1 + 22) = 23 := rfl
  clear G h hkb hbx hab
  go_enter Tryz.func134, Tryz.ntmps134
  go_wp2_with fail
  refine (HIx.out _ ((Ext.refl _ _).alloc _)).mono ?_
  rintro e w2 ⟨rfl, rfl⟩
  have e1 : Ext Nope w ((w.alloc (.cells #[.int .i64 0, .int .i64 0] 194)).alloc (.cells #[.int .i64 23, .int .i64 0] 194)) := ((Ext.refl _ _).alloc _).alloc _
  have hr0 : ((w.alloc (.cells #[.int .i64 0, .int .i64 0] 194)).alloc (.cells #[.int .i64 23, .int .i64 0] 194)).heap[w.heap.size]? = some (.cells #[.int .i64 0, .int .i64 0] 194 (0, 0)) := (heap_alloc_old _ _ _ (by simp)).trans (heap_alloc_new _ _)
  have hx0 : ((w.alloc (.cells #[.int .i64 0, .int .i64 0] 194)).alloc (.cells #[.int .i64 23, .int .i64 0] 194)).heap[w.heap.size + 1]? = some (.cells #[.int .i64 23, .int .i64 0] 194 (0, 0)) := heap_alloc_at _ _ _ (by simp)
  have H1 := toHid (show _ ∧ _ ∧ _ ∧ _ ∧ _ ∧ _ from ⟨e1, hr0, hx0, (e1.block _ (lt_of_heap HBX.out) (fun z => z)).trans HBX.out, HL.out.ext0 e1, HG.out.ext0 e1⟩)
  clear e1 hr0 hx0
  go_wp2_with fail
  refine (need_yes _).mono ?_
  rintro e w3 ⟨rfl, rfl⟩
  go_wp2_with fail
  refine (numbered_23 _).mono ?_
  rintro e w3 ⟨rfl, rfl⟩
  have hxl := lt_of_heap H1.out.2.2.2.1
  have cbx : ((w.alloc (.cells #[.int .i64 0, .int .i64 0] 194)).alloc (.cells #[.int .i64 23, .int .i64 0] 194)).cell? ⟨bx, 0, none⟩ = some (ptr rb) := by rw [show (⟨bx, 0, none⟩ : Addr) = at_ bx 0 from rfl, cell_of_blk H1.out.2.2.2.1]; rfl
  obtain ⟨R, HR⟩ : ∃ R, Hid (w.heap.size = R) := ⟨_, rfl⟩
  rw [HR.out] at H1 ⊢
  generalize (w.alloc (.cells #[.int .i64 0, .int .i64 0] 194)).alloc (.cells #[.int .i64 23, .int .i64 0] 194) = w1 at *
  obtain ⟨x0, x1, f0, f1⟩ := ins_cells H1.out.2.2.1
  obtain ⟨y0, y1, g0, g1⟩ := ins_cells H1.out.2.1
  go_wp2_with fail
  have hrR : rb < R := by have := HR.out; omega
  have hF : ((w1.setCell ⟨R, 0, none⟩ (.int .i64 23)).setCell ⟨R, 1, none⟩ (.int .i64 0)).heap[R]? = some (.cells #[.int .i64 23, .int .i64 0] 194 (0, 0)) := heap_setCell_eq _ R 1 _ _ _ _ (heap_setCell_eq _ R 0 _ _ _ _ H1.out.2.1)
  have rF := H1.out.2.2.2.2.1.ext (Ext.setCell (S := fun b => b = R) (Ext.setCell (S := fun b => b = R) (Ext.refl _ _) R 0 (fun _ => rfl) (.int .i64 23)) R 1 (fun _ => rfl) (.int .i64 0)) (fun z => by have z : rb = R := z; omega) (fun b hb z => by have := hB b hb.2; have := HR.out; have z : b = R := z; omega)
  have eF : Ext (fun b => b = rb) w ((w1.setCell ⟨R, 0, none⟩ (.int .i64 23)).setCell ⟨R, 1, none⟩ (.int .i64 0)) := Ext.setCell (S := fun b => b = rb) (Ext.setCell (S := fun b => b = rb) (H1.out.1.mono (fun _ z => z.elim)) R 0 (fun z => by have := HR.out; omega) _) R 1 (fun z => by have := HR.out; omega) _
  clear x0 x1 f0 f1 y0 y1 g0 g1 cbx hxl
  generalize (w1.setCell ⟨R, 0, none⟩ (.int .i64 23)).setCell ⟨R, 1, none⟩ (.int .i64 0) = wF at *
  obtain ⟨d0, d1, _, _⟩ := ins_cells hF
  exact bodyPost_ret (v := .agg #[.int .i64 23, .int .i64 0]) (by simp [results, Tryz.results134, go_sem, d0, d1]) rfl ⟨rfl, rF, eF⟩
end Go.Proofs.YtajebdpalnpjdaaGreatDoor
namespace Go.Proofs.YtajebdpalnpjdaaGreatDoor
open Go.RowKit
attribute [local go_sem] alloc_drewN setCell_drewN

theorem ent_ins : Enters 134 := enters_of Tryz.func134 (by kernel_rfl) rfl
abbrev insWords (c : List (Int × Int)) : List ByteArray := c.flatMap fun x => insW x :: insR x
set_option maxRecDepth 100000 in
set_option maxHeartbeats 4000000 in
/-- reader.program -/
theorem program_calls {w : World} (G : Glob w) {rb : Nat} {B : Nat → Prop} {cs : List Value} (hb : 11 ≤ rb) (hB : ∀ b, B b → b < w.heap.size) {c : List (Int × Int)} (h : RL w rb B cs (insWords c)) (hc : ∀ x ∈ c, InsOK x) (h0 : c ≠ []) (hl : c.length ≤ 1000) :
    Calls Tryz.prog 63 #[ptr rb] w fun e w' => ∃ v, e = .returned v ∧ OwnT 194 w' w.heap.size v c ∧ RL w' rb B cs [] ∧ Ext (fun b => b = rb) w w' := by
  have hlr := h.lt
  obtain ⟨a0, cap0, hc0⟩ := h.cell
  have hpos : 0 < (insWords c).length := by
    cases c with
    | nil => exact absurd rfl h0
    | cons x c => simp [insWords]
  generalize (insWords c).length = nw at hc0 hpos
  have s1 : (0 : Int) < (nw : Int) := by omega
  have HB := toHid hB
  have HC := toHid (show _ ∧ _ from ⟨hc, hl⟩)
  have HL := toHid h
  have HG := toHid G
  clear G h hc hl hB h0
  go_enter Tryz.func63, Tryz.ntmps63
  go_wp2_with fail
  refine (need_yes _).mono ?_
  rintro e w1 ⟨rfl, rfl⟩
  have e1 : Ext Nope w (w.alloc (.cells #[ptr rb] 58)) := (Ext.refl _ _).alloc _
  have hz1 := heap_alloc_new w (.cells #[ptr rb] 58)
  have H1 := toHid (show _ ∧ _ ∧ _ ∧ _ from ⟨HL.out.ext0 e1, e1, HG.out.ext0 e1, hz1⟩)
  clear e1 hz1 hc0
  obtain ⟨X, HX⟩ : ∃ X, Hid (w.heap.size = X) := ⟨_, rfl⟩
  rw [HX.out] at H1 ⊢
  go_wp2_with fail
  refine (words_calls H1.out.2.2.1).mono ?_
  rintro e w2 ⟨rfl, hk2, e2⟩
  have hx2 := (e2.block _ (lt_of_heap H1.out.2.2.2) (fun z => z)).trans H1.out.2.2.2
  obtain ⟨kb, HKB⟩ : ∃ kb, Hid ((w.alloc (.cells #[ptr rb] 58)).heap.size = kb) := ⟨_, rfl⟩
  rw [HKB.out] at hk2 ⊢
  have e3 : Ext Nope w2 (w2.alloc (.cells #[.slice (some ⟨kb, 0, none⟩) 26 26] 59)) := (Ext.refl _ _).alloc _
  have ha3 := heap_alloc_new w2 (.cells #[.slice (some ⟨kb, 0, none⟩) 26 26] 59)
  have E3 : Ext Nope w (w2.alloc (.cells #[.slice (some ⟨kb, 0, none⟩) 26 26] 59)) := ext0 (ext0 H1.out.2.1 e2) e3
  have hx3 := (e3.block _ (lt_of_heap hx2) (fun z => z)).trans hx2
  have hk3 := (e3.block _ (lt_of_heap hk2) (fun z => z)).trans hk2
  have cx : w2.cell? ⟨X, 0, none⟩ = some (ptr rb) := by rw [show (⟨X, 0, none⟩ : Addr) = at_ X 0 from rfl, cell_of_blk hx2]; rfl
  have hxl : X < w2.heap.size := lt_of_heap hx2
  have H3 := toHid (show _ ∧ _ ∧ _ ∧ _ ∧ _ ∧ _ from ⟨HL.out.ext0 E3, E3, HG.out.ext0 E3, hx3, ha3, hk3⟩)
  have hent := ent_ins
  clear e2 e3 E3 hx2 hx3 hk2 hk3 ha3
  go_wp2_with fail
  refine (list_ins (f := 134) (caps := #[ptr w2.heap.size, ptr X]) ent_ins (fun b hb => Nat.lt_of_lt_of_le (HB.out b hb) H3.out.2.1.size) (c := c) (fst := insW) (rest := insR) H3.out.1 (by have := HC.out.2; omega) (fun W x more hx hE hr => ?_)).mono ?_
  · have GW : Glob W := H3.out.2.2.1.ext hE (fun g hg z => by have z : g = rb := z; omega)
    have hBW : ∀ b, B b → b < W.heap.size := fun b hb => Nat.lt_of_lt_of_le (HB.out b hb) (Nat.le_trans H3.out.2.1.size hE.size)
    have hne : ∀ b T c, (w2.alloc (.cells #[.slice (some ⟨kb, 0, none⟩) 26 26] 59)).heap[b]? = some (.cells c T (0, 0)) → T ≠ 61 → ¬ b = rb := fun b T c hb hT z => by
      obtain ⟨v, hv, _⟩ := H3.out.1
      rw [z] at hb
      have := hv.1
      rw [hb] at this
      simp at this
      exact hT this.2
    have b1 := (hE.block _ (lt_of_heap H3.out.2.2.2.1) (hne _ _ _ H3.out.2.2.2.1 (by decide))).trans H3.out.2.2.2.1
    have b2 := (hE.block _ (lt_of_heap H3.out.2.2.2.2.1) (hne _ _ _ H3.out.2.2.2.2.1 (by decide))).trans H3.out.2.2.2.2.1
    have b3 := (hE.block _ (lt_of_heap H3.out.2.2.2.2.2) (hne _ _ _ H3.out.2.2.2.2.2 (by decide))).trans H3.out.2.2.2.2.2
    rcases HC.out.1 x hx with rfl | rfl | rfl
    · exact read_push GW hb hBW hr b1 b2 b3
    · exact read_setx GW hb hBW hr b1 b2 b3
    · exact read_if GW hb hBW hr b1 b2 b3
  · rintro e w4 ⟨v, rfl, ho, hr, e4⟩
    have H4 := toHid (show _ ∧ _ ∧ _ from ⟨ho.mono H3.out.2.1.size, hr, (ext1 H3.out.2.1 e4 : Ext (fun b => b = rb) w w4)⟩)
    clear ho hr e4
    go_wp2_with fail
    go_ret
    have := HX.out
    rw [← this]
    exact ⟨_, rfl, H4.out⟩
theorem gCells_prog (gs : List (Value × Int × Value)) (vc : Value) (a : Int) (vp : Value) (u : Value) : (gCells (gs ++ [(vc, a, vp)])).set (gs.length * 8 + 7) u = gCells (gs ++ [(vc, a, u)]) := by
  have hlen : (gCells gs).length = gs.length * 8 := by
    induction gs with
    | nil => rfl
    | cons g gs ih =>
      rw [show g :: gs = [g] ++ gs from rfl, gCells_append, List.length_append, ih, List.length_append]
      simp [gCells, gRow]
      omega
  rw [gCells_append, gCells_append, List.set_append_right _ _ (by omega), hlen, Nat.add_sub_cancel_left]
  rfl
theorem gCells_at7 (gs : List (Value × Int × Value)) (vc : Value) (a : Int) (vp : Value) : (gCells (gs ++ [(vc, a, vp)]))[gs.length * 8 + 7]? = some vp := by
  have hlen : (gCells gs).length = gs.length * 8 := by
    induction gs with
    | nil => rfl
    | cons g gs ih =>
      rw [show g :: gs = [g] ++ gs from rfl, gCells_append, List.length_append, ih, List.length_append]
      simp [gCells, gRow]
      omega
  rw [gCells_append, List.getElem?_append_right (by omega), hlen, Nat.add_sub_cancel_left]
  rfl
set_option maxRecDepth 100000 in
set_option maxHeartbeats 4000000 in
/-- reader.glyph of 'program' -/
theorem glyph_program {w : World} (G : Glob w) {rb base : Nat} {B : Nat → Prop} {cs : List Value} (hb : 11 ≤ rb) (hrb : rb < base) (hbw : base ≤ w.heap.size) {c : List (Int × Int)} (h : RL w rb B cs (insWords c)) (hc : ∀ x ∈ c, InsOK x) (h0 : c ≠ []) (hl : c.length ≤ 1000)
    {vg vc vp : Value} {a : Int} {gs : List (Value × Int × Value)} (hcs : cs[10]? = some vg) (hBg : ∀ b, B b → b < w.heap.size ∧ ¬ vg.ownBlock = some b) (ho : OwnG w base vg (gs ++ [(vc, a, vp)])) (hgl : gs.length ≤ 100000) :
    Calls Tryz.prog 24 #[ptr rb, .string k_program] w fun e w' => e = .returned (.tuple #[]) ∧ ∃ v, RL w' rb B cs [] ∧ OwnG w' base vg (gs ++ [(vc, a, v)]) ∧ OwnT 194 w' w.heap.size v c ∧ Ext (fun b => b = rb ∨ vg.ownBlock = some b) w w' := by
  have HO := toHid ho
  obtain ⟨av, cv, hv, hcv, _, hgg⟩ := own_gen (show w.ownsRow base 47 8 vg (gs ++ [(vc, a, vp)]).length _ from ho)
  rw [List.length_append, List.length_singleton] at hv hcv hgg
  obtain ⟨g, rfl⟩ := hgg (by omega)
  subst hv
  obtain ⟨k, HK⟩ : ∃ k, Hid (gs.length = k) := ⟨_, rfl⟩
  have c10 : w.cell? ⟨rb, 10, none⟩ = some (.slice (some ⟨g, 0, none⟩) (gs.length + 1) cv) := (h.at (by omega)).1.trans hcs
  rw [HK.out] at c10 hcv hgl
  have HN := toHid (show ∀ W, Ext Nope w W → _ from fun W e => program_calls (G.ext0 e) hb (fun b z => Nat.lt_of_lt_of_le (hBg b z).1 e.size) (h.ext0 e) hc h0 hl)
  have hgb : base ≤ g ∧ g < w.heap.size := World.ownsRow.lt HO.out g (by simp [Value.ownBlock])
  clear G h ho hcs hc
  have s1 : (0 : Int) ≤ (k : Int) := by omega
  have s2 : IntKind.i64.wrap (k : Int) = (k : Int) := IntWalk.i64_in _ (by omega)
  have s3 : (k : Int) < (k : Int) + 1 := by omega
  go_enter Tryz.func24, Tryz.ntmps24
  go_wp2_with fail
  go_still_tail 13, (by kernel_rfl)
  change wpList _ _ _ _ _ w.drew
  clear c10
  go_wp2_with fail
  refine (HN.out _ (Ext.refl _ _).drew).mono ?_
  rintro e w2 ⟨v, rfl, o2, r2, e2⟩
  have e2' : Ext (fun b => b = rb) w w2 := ext1 (Ext.refl Nope w).drew e2
  have q2 : OwnG w2 base (.slice (some ⟨g, 0, none⟩) (gs.length + 1) cv) (gs ++ [(vc, a, vp)]) := own_ext HO.out e2' (fun b hb' z => by have h1 := (World.ownsRow.lt HO.out b hb').1; have z : b = rb := z; omega)
  have q2' : w2.ownsRow base 47 8 (.slice (some ⟨g, 0, none⟩) (gs.length + 1) cv) (gs.length + 1) (gCells (gs ++ [(vc, a, vp)])) := by
    have h := q2
    unfold OwnG at h
    rw [List.length_append, List.length_singleton] at h
    exact h
  have c7 : w2.cell? ⟨g, gs.length * 8 + 7, none⟩ = some vp := own_cell q2' (gCells_at7 _ _ _ _)
  have f7 : w2.frozen? ⟨g, gs.length * 8 + 7, none⟩ = false := own_free q2' _
  have hq := own_set q2' (gs.length * 8 + 7) v
  rw [gCells_prog] at hq
  rw [HK.out] at c7 f7 hq
  obtain ⟨pv, pcv, hpv, _⟩ := own_gen (show w2.ownsRow _ _ _ v c.length _ from o2)
  subst hpv
  have H2 := toHid (show _ ∧ _ ∧ _ ∧ _ from ⟨r2, e2', (show OwnT 194 w2 w.heap.size (.slice pv c.length pcv) c from o2), hq⟩)
  clear r2 e2 e2' o2 q2 q2' hq HN
  go_wp2_with fail
  go_end0
  have e4 : Ext (fun b => b = g) w2 (w2.setCell ⟨g, k * 8 + 7, none⟩ (.slice pv c.length pcv)) := Ext.setCell (S := fun b => b = g) (Ext.refl _ _) g (k * 8 + 7) (fun _ => rfl) _
  refine ⟨rfl, .slice pv c.length pcv, H2.out.1.ext e4 (fun z => by have z : rb = g := z; omega) (fun b hb' z => (hBg b hb'.2).2 (by have z : b = g := z; rw [z]; simp [Value.ownBlock])), ?_, own_ext H2.out.2.2.1 e4 (fun b hb' z => by have z : b = g := z; have := (World.ownsRow.lt H2.out.2.2.1 b hb').1; omega), ?_⟩
  · unfold OwnG
    rw [List.length_append, List.length_singleton, HK.out]
    exact H2.out.2.2.2
  · refine (H2.out.2.1.mono (fun b z => Or.inl z)).trans (S := fun b => b = rb ∨ (Value.slice (some ⟨g, 0, none⟩) (gs.length + 1) cv).ownBlock = some b) (e4.mono (fun b z => Or.inr ?_)) (fun _ _ z => z)
    have z : b = g := z
    rw [z]
    simp [Value.ownBlock]
end Go.Proofs.YtajebdpalnpjdaaGreatDoor
namespace Go.Proofs.YtajebdpalnpjdaaGreatDoor
open Go.RowKit
attribute [local go_sem] alloc_drewN setCell_drewN

/-- A region that gives up: what is known behind it. -/
def CatchQ (w0 : World) (rb : Nat) (D : List Deferred) (Q : Exit → Act → World → Prop) : Exit → Act → World → Prop
  | .panic c, a, w' => c = [{ v := .iface 122 (.agg #[]), recovered := false }] ∧ a.defers = D ∧ a.tmps[4]? = some (.pointer (some ⟨w0.heap.size, 0, none⟩)) ∧ Ext (fun b => b = rb) w0 w' ∧ w'.heap[w0.heap.size]? = some (.cells #[.bool false] 4 (0, 0))
  | e, a, w' => Q e a w'
theorem CatchQ.put {w0 : World} {rb : Nat} {D : List Deferred} {Q : Exit → Act → World → Prop} {c : List PanicEntry} {a : Act} {w : World} {d : Nat} {v : Value} (h : CatchQ w0 rb D Q (.panic c) (a.put (some d) v) w) (hd : d ≠ 4) : CatchQ w0 rb D Q (.panic c) a w := by
  obtain ⟨h1, h2, h3, h4, h5⟩ := h
  exact ⟨h1, h2, by simpa [Act.put, Array.getElem?_setIfInBounds_ne hd] using h3, h4, h5⟩
theorem wp_region_catch {P : Program} {id : Nat} {ops : Array Oper} {b : Bool} {Q : Exit → Act → World → Prop} {a : Act} {w w0 : World} {rb : Nat} {D : List Deferred} (hQ : ∀ c a w', CatchQ w0 rb D Q (.panic c) a w' → Q (.panic c) a w')
    (h : (Code.region id ops b).wp P (CatchQ w0 rb D Q) a w) : (Code.region id ops b).wp P Q a w :=
  Code.wp_mono (fun e a w h => by cases e <;> first | exact h | exact hQ _ _ _ h) h
set_option maxRecDepth 100000 in
set_option maxHeartbeats 4000000 in
/-- reader.line of a line that may not stand there -/
theorem line_out {w : World} (G : Glob w) {rb : Nat} {cs : List Value} {v0 : Value} (hb : 11 ≤ rb) (h : RB w rb cs v0) {kind : ByteArray} {ws : List ByteArray} (hc : ∀ p ∈ kind :: ws, (32 : UInt8) ∉ p.data.toList) (hs : (joinB 32 (kind :: ws)).size ≤ 100000)
    {before : ByteArray} (hbe : cs[11]? = some (.string before)) {fl : List ByteArray} (hF : ∀ W, Glob W → Calls Tryz.prog 22 #[.string kind] W (Follows W fl)) (hin : Lib.containsS fl before = false) :
    Calls Tryz.prog 11 #[ptr rb, .string (joinB 32 (kind :: ws))] w fun e w' => e = .returned (.bool false) ∧ Ext (fun b => b = rb) w w' := by
  have HG := toHid G
  have HC := toHid (show _ ∧ _ from ⟨hc, hs⟩)
  have HR := toHid h
  have HF := toHid hF
  have HB := toHid hbe
  have hne : rb ≠ w.heap.size := Nat.ne_of_lt h.lt
  obtain ⟨jt, HJ⟩ : ∃ jt, Hid (joinB 32 (kind :: ws) = jt) := ⟨_, rfl⟩
  rw [HJ.out]
  clear G hc hs h hF hbe
  refine calls_by fun R' HR' => ?_
  go_enter_defers Tryz.func11, Tryz.ntmps11
  go_wp2_with fail
  rw [← HJ.out]
  have e1 : Ext Nope w (w.alloc (.cells #[.bool false] 4)) := (Ext.refl _ _).alloc _
  refine (split_calls (HG.out.ext0 e1) 32 (by simp) HC.out.1 HC.out.2).mono ?_
  rintro e w2 ⟨v, rfl, rd2, e2⟩
  have hsz1 : (w.alloc (.cells #[.bool false] 4)).heap.size = w.heap.size + 1 := by simp
  rw [hsz1] at rd2
  obtain ⟨a, cap, hv, _⟩ := rd2.len
  subst hv
  have b2 : RB w2 rb cs v0 := HR.out.ext (ext0 e1 e2) (fun z => z)
  have c2 : w2.cell? ⟨rb, 12, none⟩ = some v0 := b2.left
  have f2 : w2.frozen? ⟨rb, 12, none⟩ = false := b2.free 12
  have hz2 : w2.heap[w.heap.size]? = some (.cells #[.bool false] 4 (0, 0)) := (e2.block _ (by simp) (fun z => z)).trans (heap_alloc_new w _)
  have H2 := toHid (show _ ∧ _ ∧ _ ∧ _ from ⟨b2, rd2, ext0 e1 e2, hz2⟩)
  clear b2 rd2 e1 e2 hz2 hsz1
  go_wp2_with fail
  have r3 : RL (w2.setCell ⟨rb, 12, none⟩ (.slice a (ws.length + 1) cap)) rb (fun b => w.heap.size < b) cs (kind :: ws) := by
    refine ⟨_, H2.out.1.setLeft _, ?_⟩
    have hh := H2.out.2.1.ext (S := fun b => b = rb) (Ext.setCell (S := fun b => b = rb) (Ext.refl _ _) rb 12 (fun _ => rfl) (.slice a (ws.length + 1) cap)) (fun b hA z => by have z : b = rb := z; have := HR.out.lt; omega)
    refine (by simpa using hh : Rd _ _ [.slice a (ws.length + 1) cap] _).mono (fun b hb hA => ⟨fun z => ?_, ?_⟩)
    · have := HR.out.lt; omega
    · show w.heap.size < b; omega
  have e3 : Ext (fun b => b = rb) w (w2.setCell ⟨rb, 12, none⟩ (.slice a (ws.length + 1) cap)) := Ext.setCell (S := fun b => b = rb) (H2.out.2.2.1.mono (fun _ z => z.elim)) rb 12 (fun _ => rfl) _
  have hz3 : (w2.setCell ⟨rb, 12, none⟩ (.slice a (ws.length + 1) cap)).heap[w.heap.size]? = some (.cells #[.bool false] 4 (0, 0)) := ((Ext.setCell (S := fun b => b = rb) (Ext.refl Nope w2 |>.mono (fun _ z => z.elim)) rb 12 (fun _ => rfl) _).block _ (lt_of_heap H2.out.2.2.2) (fun z => hne z.symm)).trans H2.out.2.2.2
  have H3 := toHid (show _ ∧ _ ∧ _ from ⟨r3, e3, hz3⟩)
  clear r3 e3 hz3 H2 c2 f2
  refine (next_some H3.out.1).mono ?_
  rintro e w4 ⟨rfl, _, r4, e4⟩
  have e5 := H3.out.2.1.trans e4 (fun _ _ z => z)
  have hz4 : w4.heap[w.heap.size]? = some (.cells #[.bool false] 4 (0, 0)) := (e4.block _ (lt_of_heap H3.out.2.2) (fun z => hne z.symm)).trans H3.out.2.2
  have G4 := HG.out.ext e5 (fun g hg z => by have z : g = rb := z; omega)
  have c4 : w4.cell? ⟨rb, 11, none⟩ = some (.string before) := (r4.at (by omega)).1.trans HB.out
  have H4 := toHid (show _ ∧ _ ∧ _ ∧ _ from ⟨r4, e5, hz4, G4⟩)
  clear r4 e4 e5 hz4 G4 H3
  go_wp2_with fail
  refine wp_region_catch (w0 := w) (rb := rb) (D := [{ target := Target.fn (Fn.func 17) #[Value.pointer (some ⟨w.heap.size, 0, none⟩)], args := #[] }]) (fun c a8 w8 h8 => ?_) ?_
  · obtain ⟨rfl, hd8, ht8, e8, hz8⟩ := h8
    obtain ⟨tm8, df8⟩ := a8
    have hd8 : df8 = [{ target := Target.fn (Fn.func 17) #[Value.pointer (some ⟨w.heap.size, 0, none⟩)], args := #[] }] := hd8
    subst hd8
    have ht8 : tm8[4]? = some (.pointer (some ⟨w.heap.size, 0, none⟩)) := ht8
    have c0 : w8.cell? ⟨w.heap.size, 0, none⟩ = some (.bool false) := by
      rw [show (⟨w.heap.size, 0, none⟩ : Addr) = at_ w.heap.size 0 from rfl, cell_of_blk hz8]; rfl
    have f0 : w8.frozen? ⟨w.heap.size, 0, none⟩ = false := free_of_blk hz8 0
    have hz10 : (w8.setCell ⟨w.heap.size, 0, none⟩ (.bool false)).heap[w.heap.size]? = some (.cells #[.bool false] 4 (0, 0)) := by
      rw [show (⟨w.heap.size, 0, none⟩ : Addr) = at_ w.heap.size 0 from rfl, heap_setCell_eq _ w.heap.size 0 (.bool false) _ _ _ hz8]
      rfl
    have c00 : (w8.setCell ⟨w.heap.size, 0, none⟩ (.bool false)).cell? ⟨w.heap.size, 0, none⟩ = some (.bool false) := by
      rw [show (⟨w.heap.size, 0, none⟩ : Addr) = at_ w.heap.size 0 from rfl, cell_of_blk hz10]; rfl
    have e10 : Ext (fun b => b = rb) w (w8.setCell ⟨w.heap.size, 0, none⟩ (.bool false)) := Ext.setCell (S := fun b => b = rb) e8 w.heap.size 0 (fun z => absurd z (Nat.lt_irrefl _)) _
    refine leaves_cons (f := 17) (args := #[ptr w.heap.size]) (by simp) (by simp [go_sem]) ?_
    refine (catch_panics w.heap.size _ _ [] _ false c0 f0).mono ?_
    rintro e u' w'' ⟨rfl, rfl, rfl⟩
    simp [Leaves, settle, results, Tryz.results11, go_sem, c00, ht8]
    exact HR'.out _ _ ⟨rfl, e10⟩
  refine wp_region_head 6 (fun w' => w'.cell? ⟨rb, 11, none⟩ = some (.string before)) (by kernel_rfl) (by kernel_rfl) (show w4.drew.cell? _ = _ from c4) (fun hO hHeld => ?_)
  refine wpAnyT_takeD (i := 0) (d := some 14) (v := ?_) hO rfl rfl (by kernel_rfl) (fun _ _ _ h => h.put (by decide)) (Or.inl ⟨by rfl, ?_⟩) (by exact hHeld) ?_
  rotate_left
  · intro w' hSw
    go_simp
    try (with_reducible rfl)
  try simp only [Act.put, List.setIfInBounds_toArray, List.set_cons_zero, List.set_cons_succ]
  refine wpAnyT_takeD (i := 2) (d := some 16) (v := ?_) hO rfl rfl (by kernel_rfl) (fun _ _ _ h => h.put (by decide)) (Or.inl ⟨by rfl, ?_⟩) (by exact hHeld) ?_
  rotate_left
  · intro w' hSw
    go_simp
    try (with_reducible rfl)
  try simp only [Act.put, List.setIfInBounds_toArray, List.set_cons_zero, List.set_cons_succ]
  refine wpAnyT_takeD (i := 3) (d := some 17) (v := ?_) hO rfl rfl (by kernel_rfl) (fun _ _ _ h => h.put (by decide)) (Or.inl ⟨by rfl, ?_⟩) (by exact hHeld) ?_
  rotate_left
  · intro w' hSw
    go_simp
    try (with_reducible rfl)
  try simp only [Act.put, List.setIfInBounds_toArray, List.set_cons_zero, List.set_cons_succ]
  refine wpAnyT_takeD (i := 4) (d := some 18) (v := ?_) hO rfl rfl (by kernel_rfl) (fun _ _ _ h => h.put (by decide)) (Or.inl ⟨by rfl, ?_⟩) (by exact hHeld) ?_
  rotate_left
  · intro w' hSw
    go_simp
    try (with_reducible rfl)
  try simp only [Act.put, List.setIfInBounds_toArray, List.set_cons_zero, List.set_cons_succ]
  refine wpAnyT_takeD (i := 5) (d := some 19) (v := ?_) hO rfl rfl (by kernel_rfl) (fun _ _ _ h => h.put (by decide)) (Or.inl ⟨by rfl, ?_⟩) (by exact hHeld) ?_
  rotate_left
  · intro w' hSw
    go_simp
    try (with_reducible rfl)
  try simp only [Act.put, List.setIfInBounds_toArray, List.set_cons_zero, List.set_cons_succ]
  clear hHeld
  refine wpAnyT_one (i := 1) rfl (by kernel_rfl) (by rfl) (fun K hK => ?_)
  go_simp
  refine (HF.out _ (H4.out.2.2.2.ext0 (Ext.refl _ _).drew)).mono ?_
  rintro e w5 ⟨v, rfl, rd5, e5⟩
  have c5 : w5.cell? ⟨rb, 11, none⟩ = some (.string before) := ((H4.out.1.ext0 (ext0 (Ext.refl _ _).drew e5)).at (by omega)).1.trans HB.out
  have H5 := toHid (show _ ∧ _ from ⟨rd5, (ext0 (Ext.refl _ _).drew e5 : Ext Nope w4 w5)⟩)
  clear rd5 e5
  obtain ⟨av, avc, hv, _⟩ := H5.out.1.len
  subst hv
  try go_simp
  refine hK.out _ _ c5 (fun _ => ?_)
  clear hK K
  try simp only [Act.put, List.setIfInBounds_toArray, List.set_cons_zero, List.set_cons_succ]
  refine wpAnyT_done (by kernel_rfl) ⟨by kernel_rfl, ?_⟩
  simp only [List.drop_succ_cons, List.drop_zero]
  go_wp2_with fail
  have hrd5 : Rd (fun b => w4.drew.heap.size ≤ b) w5 [.slice av fl.length avc] (.l 1 (fl.map .s)) := by simpa using H5.out.1
  have hh := toHid (contains_calls hrd5 before)
  rw [hin] at hh
  clear hrd5
  refine hh.out.mono ?_
  rintro e w6 ⟨rfl, rfl⟩
  clear hh
  have HE8 := toHid (show _ ∧ _ from ⟨(H4.out.2.1.trans (S := fun b => b = rb) (H5.out.2.mono (fun _ z => z.elim)) (fun _ _ z => z) : Ext (fun b => b = rb) w w5), (H5.out.2.block _ (lt_of_heap H4.out.2.2.1) (fun z => z)).trans H4.out.2.2.1⟩)
  go_wp2_with fail
  refine (need_no _).mono ?_
  rintro e w8 ⟨rfl, rfl⟩
  exact ⟨rfl, rfl, rfl, HE8.out.1, HE8.out.2⟩
end Go.Proofs.YtajebdpalnpjdaaGreatDoor
