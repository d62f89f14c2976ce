/-
  The points of a contour.
-/
import Derived.Test.YtajebdpalnpjdaaGreatDoorM03
import Derived.Test.YtajebdpalnpjdaaGreatDoorM06
import Derived.StillTailTactics
namespace Go.Proofs.YtajebdpalnpjdaaGreatDoor
open Go.RowKit
attribute [local go_sem] alloc_drewN setCell_drewN

def ptCore (p : PtA) : ByteArray := joinB 44 ([p.x, p.y].map num)
/-- A point as a text. -/
def ptText (p : PtA) : ByteArray := if p.on then ptCore p else ⟨((ptCore p).data.toList ++ [126]).toArray⟩
/-- Coordinates of at most seven digits. -/
def Pt7 (p : PtA) : Prop := (-9999999 ≤ p.x ∧ p.x ≤ 9999999) ∧ (-9999999 ≤ p.y ∧ p.y ≤ 9999999)
theorem ptCore_not (p : PtA) : (126 : UInt8) ∉ (ptCore p).data.toList := by
  intro h
  have e : (ptCore p).data.toList = (num p.x).data.toList ++ 44 :: (num p.y).data.toList := rfl
  rw [e] at h
  rcases List.mem_append.1 h with h | h
  · exact num_not (by decide) (by decide) h
  · rcases List.mem_cons.1 h with h | h
    · revert h; decide
    · exact num_not (by decide) (by decide) h
theorem suffix_not {l : List UInt8} {c : UInt8} (h : c ∉ l) : Lib.hasSuffix l [c] = false := by
  unfold Lib.hasSuffix
  rw [← Bool.not_eq_true, List.isSuffixOf_iff_suffix]
  rintro ⟨t, rfl⟩
  exact h (by simp)
theorem suffix_yes (l : List UInt8) (c : UInt8) : Lib.hasSuffix (l ++ [c]) [c] = true := by
  unfold Lib.hasSuffix
  rw [List.isSuffixOf_iff_suffix]
  exact ⟨l, rfl⟩
theorem ptText_cut (p : PtA) : (⟨(Lib.trimSuffix (ptText p).data.toList [126]).toArray⟩ : ByteArray) = ptCore p ∧ Lib.hasSuffix (ptText p).data.toList [126] = !p.on := by
  unfold ptText Lib.trimSuffix
  cases p.on with
  | true =>
    rw [if_pos rfl, suffix_not (ptCore_not p), if_neg (by decide)]
    exact ⟨bytes_ext (by simp), rfl⟩
  | false =>
    simp only [Bool.false_eq_true, if_false, suffix_yes, if_true]
    refine ⟨bytes_ext ?_, rfl⟩
    simp
theorem ptCore_size {p : PtA} (h : Pt7 p) : (ptCore p).size ≤ 43 := by
  have h1 := num_size (n := p.x) (by have := h.1; omega) (by have := h.1; omega)
  have h2 := num_size (n := p.y) (by have := h.2; omega) (by have := h.2; omega)
  have e : (ptCore p).data.toList = (num p.x).data.toList ++ 44 :: (num p.y).data.toList := rfl
  have h3 : ∀ b : ByteArray, b.size = b.data.toList.length := fun b => by show b.data.size = _; simp
  rw [h3] at h1 h2 ⊢
  rw [e]
  simp only [List.length_append, List.length_cons]
  omega
set_option maxRecDepth 100000 in
set_option maxHeartbeats 1000000 in
/-- the closure of reader.contour -/
theorem pt_read {w : World} (G : Glob w) (hg : 11 ≤ w.heap.size) {p : PtA} (hp : Pt7 p) : Calls Tryz.prog 131 #[.string (ptText p)] w fun e w' => e = .returned (.agg #[.int .i64 p.x, .int .i64 p.y, .bool p.on]) ∧ Ext Nope w w' := by
  obtain ⟨c1, c2⟩ := ptText_cut p
  have HC := toHid (show ∀ W, Calls Tryz.prog 132 #[.string (ptText p), .string ⟨#[126]⟩] W (fun e w' => e = .returned (.tuple #[.string (ptCore p), .bool (!p.on)]) ∧ W = w') from fun W =>
    (Tryz.strings_CutSuffix (ptText p) ⟨#[126]⟩ W (by
      unfold ptText
      have h43 := ptCore_size hp
      cases p.on with
      | true => simp only [if_true]; omega
      | false =>
        simp only [Bool.false_eq_true, if_false]
        show ((ptCore p).data.toList ++ [126]).toArray.size ≤ _
        have : (ptCore p).size = (ptCore p).data.toList.length := by show (ptCore p).data.size = _; simp
        simp; simp at this; omega)).mono fun e w' ⟨he, hw⟩ => ⟨by rw [he, ← c1, ← c2], hw.symm⟩)
  have HV := toHid (show ∀ W, Glob W → 11 ≤ W.heap.size → Calls Tryz.prog 62 #[.string (ptCore p), .string ⟨#[44]⟩, .int .i64 2] W (fun e w' => ∃ v, e = .returned v ∧ OwnI w' W.heap.size v [p.x, p.y] ∧ Ext Nope W w') from fun W GW hW =>
    values_ok GW hW 44 (by decide) (by decide) (l := [p.x, p.y]) (by simp) (fun n hn => by simp at hn; rcases hn with rfl | rfl; exact hp.1; exact hp.2) (by have := ptCore_size hp; unfold ptCore at this; omega) 2 (.inl rfl))
  have HG := toHid G
  clear c1 c2 G hp
  generalize ptText p = s at *
  generalize ptCore p = t at *
  go_enter Tryz.func131, Tryz.ntmps131
  go_wp2_with fail
  have hb := heap_alloc_new w (.cells #[.int .i64 0, .int .i64 0, .bool false] 50)
  have e1 : Ext Nope w (w.alloc (.cells #[.int .i64 0, .int .i64 0, .bool false] 50)) := (Ext.refl _ _).alloc _
  refine (HC.out _).mono ?_
  rintro e w2 ⟨rfl, rfl⟩
  have H1 := toHid (show _ ∧ _ from ⟨hb, e1⟩)
  clear hb e1
  go_wp2_with fail
  refine (HV.out _ (HG.out.ext0 H1.out.2) (by simp; omega)).mono ?_
  rintro e w3 ⟨v, rfl, o3, e3⟩
  obtain ⟨g0, cap, hv, hcap, _, hgg⟩ := own_gen o3
  obtain ⟨g, rfl⟩ := hgg (by simp)
  have hv : v = .slice (some ⟨g, 0, none⟩) 2 cap := hv
  subst hv
  have c0 : w3.cell? ⟨g, 0, none⟩ = some (.int .i64 p.x) := own_cell o3 (j := 0) rfl
  have c1 : w3.cell? ⟨g, 1, none⟩ = some (.int .i64 p.y) := own_cell o3 (j := 1) rfl
  have hb := (e3.block _ (lt_of_heap H1.out.1) (fun z => z)).trans H1.out.1
  have H3 := toHid (show _ ∧ _ from ⟨ext0 H1.out.2 e3, hb⟩)
  have d0 : w3.cell? ⟨w.heap.size, 0, none⟩ = some (.int .i64 0) := by rw [show (⟨w.heap.size, 0, none⟩ : Addr) = at_ w.heap.size 0 from rfl, cell_of_blk hb]; rfl
  have d1 : w3.cell? ⟨w.heap.size, 1, none⟩ = some (.int .i64 0) := by rw [show (⟨w.heap.size, 1, none⟩ : Addr) = at_ w.heap.size 1 from rfl, cell_of_blk hb]; rfl
  have d2 : w3.cell? ⟨w.heap.size, 2, none⟩ = some (.bool false) := by rw [show (⟨w.heap.size, 2, none⟩ : Addr) = at_ w.heap.size 2 from rfl, cell_of_blk hb]; rfl
  have f0 : w3.frozen? ⟨w.heap.size, 0, none⟩ = false := free_of_blk hb 0
  have f1 : w3.frozen? ⟨w.heap.size, 1, none⟩ = false := free_of_blk hb 1
  have f2 : w3.frozen? ⟨w.heap.size, 2, none⟩ = false := free_of_blk hb 2
  clear o3 e3 hb hgg hcap
  go_wp2_with fail
  go_still_tail 9, (by kernel_rfl)
  change wpList _ _ _ _ _ w3.drew
  have d0' : w3.drew.cell? ⟨w.heap.size, 0, none⟩ = some (.int .i64 0) := d0
  have d1' : w3.drew.cell? ⟨w.heap.size, 1, none⟩ = some (.int .i64 0) := d1
  have d2' : w3.drew.cell? ⟨w.heap.size, 2, none⟩ = some (.bool false) := d2
  have f0' : w3.drew.frozen? ⟨w.heap.size, 0, none⟩ = false := f0
  have f1' : w3.drew.frozen? ⟨w.heap.size, 1, none⟩ = false := f1
  have f2' : w3.drew.frozen? ⟨w.heap.size, 2, none⟩ = false := f2
  clear c0 c1
  go_wp2
  have e4 : Ext Nope w (((w3.setCell ⟨w.heap.size, 0, none⟩ (.int .i64 p.x)).setCell ⟨w.heap.size, 1, none⟩ (.int .i64 p.y)).setCell ⟨w.heap.size, 2, none⟩ (.bool p.on)).drew :=
    (Ext.setCell (S := Nope) (Ext.setCell (S := Nope) (Ext.setCell (S := Nope) H3.out.1 _ 0 (fun z => absurd z (by omega)) _) _ 1 (fun z => absurd z (by omega)) _) _ 2 (fun z => absurd z (by omega)) _).drew
  exact bodyPost_ret (v := .agg #[.int .i64 p.x, .int .i64 p.y, .bool p.on]) (by simp [results, Tryz.results131, go_sem, d0, d1, d2]) rfl ⟨rfl, e4⟩
theorem ent_pt_read : Enters 131 := enters_of Tryz.func131 (by kernel_rfl) rfl
theorem infoPt : (Tryz.prog.info? 50).map (fun i => (i.zero, i.size, i.bytes)) = some (some (.agg #[.int .i64 0, .int .i64 0, .bool false]), 3, 24) := by kernel_rfl
def ptCells (c : List PtA) : List Value := c.flatMap fun p => [.int .i64 p.x, .int .i64 p.y, .bool p.on]
theorem ptCells_append (a b : List PtA) : ptCells (a ++ b) = ptCells a ++ ptCells b := by simp [ptCells]
theorem ptCells_one (c : List PtA) : ∀ u ∈ ptCells c, u.oneCell' = true := fun u hu => by
  obtain ⟨p, _, h⟩ := List.mem_flatMap.1 hu
  simp at h
  rcases h with rfl | rfl | rfl <;> rfl
/-- A slice of points of one's own. -/
def OwnP (w : World) (base : Nat) (v : Value) (c : List PtA) : Prop := w.ownsRow base 50 3 v c.length (ptCells c)
theorem OwnP.ext0 {w w' : World} {base : Nat} {v : Value} {c : List PtA} (h : OwnP w base v c) (e : Ext Nope w w') : OwnP w' base v c := own_ext h e (fun _ _ z => z)
theorem OwnP.mono {w : World} {b b' : Nat} {v : Value} {c : List PtA} (h : OwnP w b v c) (hb : b' ≤ b) : OwnP w b' v c := own_base h (fun g hg => Nat.le_trans hb (World.ownsRow.lt h g hg).1)
theorem OwnP.nil (w : World) (base : Nat) : OwnP w base (.slice none 0 0) [] := ⟨rfl, .inl ⟨rfl, rfl⟩⟩
theorem ptCells_drop (c : List PtA) (k : Nat) : (ptCells c).drop (k * 3) = ptCells (c.drop k) := by
  induction k generalizing c with
  | zero => simp
  | succ k ih =>
    cases c with
    | nil => simp [ptCells]
    | cons p c =>
      rw [List.drop_succ_cons, ← ih c, show (k + 1) * 3 = k * 3 + 3 by omega]
      show (.int .i64 p.x :: .int .i64 p.y :: .bool p.on :: ptCells c).drop (k * 3 + 3) = _
      rfl
theorem OwnP.rd {A : Nat → Prop} {w : World} {base : Nat} {v : Value} {c : List PtA} (h : OwnP w base v c) (hA : ∀ b, base ≤ b → A b) (hi : ∀ p ∈ c, i64 p.x ∧ i64 p.y) : Rd A w [v] (contourD c) := by
  refine Rd.own (xs := c.map ptD) (by unfold OwnP at h; simpa using h) (fun g hg => hA g (World.ownsRow.lt h g hg).1) fun k x hk => ?_
  rw [List.getElem?_map] at hk
  obtain ⟨p, hp, rfl⟩ := Option.map_eq_some_iff.1 hk
  obtain ⟨h1, h2⟩ := hi p (List.mem_of_getElem? hp)
  rw [ptCells_drop, List.drop_eq_getElem_cons (List.getElem?_eq_some_iff.1 hp).1, (List.getElem?_eq_some_iff.1 hp).2]
  show Rd A w [.int .i64 p.x, .int .i64 p.y, .bool p.on] _
  exact Rd.mk1 (.int _ h1) (Rd.mk1 (.int _ h2) (Rd.mk1 (.bool _) .nil))
theorem OwnP.snoc {w : World} {base : Nat} {v : Value} {c : List PtA} {k : Nat} {p : PtA} (h : w.ownsRow base 50 3 v (k + 1) (ptCells (c.take k) ++ ptCells [p])) (hn : c[k]? = some p) : OwnP w base v (c.take (k + 1)) := by
  have hk := (List.getElem?_eq_some_iff.1 hn).1
  have e : c.take (k + 1) = c.take k ++ [p] := by rw [List.take_succ_eq_append_getElem hk, (List.getElem?_eq_some_iff.1 hn).2]
  unfold OwnP
  rw [e, show (c.take k ++ [p]).length = k + 1 by simp; omega, ptCells_append]
  exact h
theorem pts_at {w : World} {b T : Nat} {c : List PtA} (h : w.heap[b]? = some (.cells (ptCells c).toArray T (0, 0))) : ∀ (j : Nat) (u : Value), (ptCells c)[j]? = some u → w.cell? (Addr.add ⟨b, 0, none⟩ j) = some u := by
  intro j u hj
  have hadd : Addr.add ⟨b, 0, none⟩ j = at_ b j := by unfold Addr.add; split <;> simp_all
  rw [hadd, cell_of_blk h]
  simpa using hj
def slLen : Value → Nat
  | .slice _ n _ => n
  | _ => 0
theorem RL.cell {w : World} {rb : Nat} {B : Nat → Prop} {cs : List Value} {ws : List ByteArray} (h : RL w rb B cs ws) : ∃ a cap, w.cell? ⟨rb, 12, none⟩ = some (.slice a ws.length cap) := by
  obtain ⟨v, h1, h2⟩ := h
  obtain ⟨a, cap, hv, _⟩ := h2.len
  rw [List.length_map] at hv
  exact ⟨a, cap, by rw [h1.left, hv]⟩
set_option maxHeartbeats 2000000 in
/-- reader.contour: points to the end of the line. -/
theorem list_points {w : World} (G : Glob w) (hg : 11 ≤ w.heap.size) {rb : Nat} {B : Nat → Prop} {cs : List Value} (hb : 11 ≤ rb) (hB : ∀ b, B b → b < w.heap.size) {c : List PtA} (h : RL w rb B cs (c.map ptText)) (hc : ∀ p ∈ c, Pt7 p) (hl : c.length ≤ 100000) :
    Calls Tryz.prog 130 #[ptr rb, .func (.func 131) #[] #[]] w fun e w' => ∃ v, e = .returned v ∧ OwnP w' w.heap.size v c ∧ RL w' rb B cs [] ∧ Ext (fun b => b = rb) w w' := by
  have HG := toHid G
  have HL := toHid h
  have HC := toHid hc
  have HB := toHid hB
  clear hB
  obtain ⟨m, HM⟩ : ∃ m, Hid (c.length = m) := ⟨_, rfl⟩
  rw [HM.out] at hl
  have hrb : Hid (rb < w.heap.size) := by obtain ⟨v, h1, _⟩ := h; exact h1.lt
  clear G h hc
  obtain ⟨i0, hi, hz0, hz1, hz2⟩ := info_parts infoPt
  have HI := toHid (show _ ∧ _ ∧ _ ∧ _ from ⟨hi, hz0, hz1, hz2⟩)
  clear hi hz0 hz1 hz2
  have hent := ent_pt_read
  go_enter Tryz.func130, Tryz.ntmps130
  go_wp2_with fail
  go_loopw [5] (fun o wr => ∃ k : Nat, k ≤ m ∧ OwnP wr w.heap.size o (c.take k) ∧ RL wr rb B cs ((c.drop k).map ptText) ∧ Ext (fun b => b = rb) w wr) (fun o _ => m - slLen o)
  case atStart => exact ⟨0, Nat.zero_le _, OwnP.nil _ _, HL.out, Ext.refl _ _⟩
  case round =>
    obtain ⟨k, hk, hO, hR, hE⟩ := hrel
    rename World => wr
    obtain ⟨a0, cap0, hc0⟩ := hR.cell
    rw [List.length_map, List.length_drop, HM.out] at hc0
    have HK := toHid (show _ ∧ _ ∧ _ from ⟨hO, hR, hE⟩)
    obtain ⟨av, cv, hv, _⟩ := own_gen (show wr.ownsRow w.heap.size 50 3 u5 (c.take k).length _ from hO)
    rw [List.length_take, HM.out, Nat.min_eq_left hk] at hv
    subst hv
    clear hO hR hE
    by_cases hkm : k < m
    · obtain ⟨p, hp⟩ := nth_some hkm HM.out
      have e : c.drop k = p :: c.drop (k + 1) := by rw [List.drop_eq_getElem_cons (List.getElem?_eq_some_iff.1 hp).1, (List.getElem?_eq_some_iff.1 hp).2]
      have hR := HK.out.2.1
      rw [e, List.map_cons] at hR
      have HN := toHid (next_some hR)
      have HP := toHid (show _ ∧ _ from ⟨HC.out p (List.mem_of_getElem? hp), hp⟩)
      have s1 : (0 : Int) < ((m - k : Nat) : Int) := by omega
      clear hR e hp
      go_wp2_with fail
      refine HN.out.mono ?_
      rintro e w2 ⟨rfl, _, r2, e2⟩
      have H2 := toHid (show _ ∧ _ from ⟨r2, HK.out.2.2.trans e2 (fun _ _ z => z)⟩)
      have HO2 : Hid (OwnP w2 w.heap.size (.slice av k cv) (c.take k)) := own_ext HK.out.1 e2 (fun g hg z => by have h1 := (World.ownsRow.lt HK.out.1 g hg).1; have h2 := hrb.out; have z : g = rb := z; omega)
      clear r2 e2 HN hc0
      go_wp2_with fail
      have q1 : Glob w2 := HG.out.ext H2.out.2 (fun g hg z => by have z : g = rb := z; omega)
      have q2 : 11 ≤ w2.heap.size := Nat.le_trans hg H2.out.2.size
      have q3 := pt_read q1 q2 HP.out.1
      clear q1 q2
      refine q3.mono ?_
      clear q3
      rintro e w3 ⟨rfl, e3⟩
      have H3 := toHid (show _ ∧ _ ∧ _ ∧ _ from ⟨H2.out.1.ext0 e3, ext0 H2.out.2 e3, HO2.out.ext0 e3, e3⟩)
      have hown : w3.ownsRow w.heap.size 50 3 (.slice av k cv) k (ptCells (c.take k)) := by
        have h := H3.out.2.2.1
        unfold OwnP at h
        rw [List.length_take, HM.out, Nat.min_eq_left hk] at h
        exact h
      clear e3 HO2
      obtain ⟨hi, hz0, hz1, hz2⟩ := HI.out
      go_wp2_with (first | (at_builtin; refine wpList_append_own _ rfl (.tmp 12) (.tmp 17) 48 rfl w.heap.size 50 i0 _ 3 24 Tryz.underlying48 hi hz0 hz1 hz2 rfl (by decide) _ _ _ rfl (hown.alloc _) ⟨w3.heap.size, 0, none⟩ 1 1 (ptCells [p]) rfl rfl (pts_at (heap_alloc_new w3 _)) (ptCells_one _) (by unfold maxLen; omega) (by omega) (by have h1 := H3.out.2.1.size; simp; omega) ?_))
      intro v' w' hown' hgrow _
      have hl' : slLen v' = k + 1 := by
        obtain ⟨_, _, hv', _⟩ := own_gen hown'
        rw [hv']; rfl
      have HW := toHid (show _ ∧ _ ∧ _ ∧ _ from ⟨OwnP.snoc hown' HP.out.2, Ext.grown (H3.out.2.1.alloc _) hgrow (fun g hg hlt => absurd hlt (by have := (World.ownsRow.lt hown g hg).1; omega)),
        (H3.out.1.ext0 ((Ext.refl Nope w3).alloc _)).ext (Ext.grown (S := fun b => (Value.slice av k cv).ownBlock = some b) (Ext.refl _ _) hgrow (fun g hg _ => hg)) (fun z => by have h1 := (World.ownsRow.lt hown rb z).1; have h2 := hrb.out; omega) (fun b hb z => by have h1 := (World.ownsRow.lt hown b z).1; have h2 := HB.out b hb.2; omega), hl'⟩)
      clear hown' hgrow hown hi hz0 hz1 hz2 hl'
      go_wp2
      go_roundw
      case rel => exact ⟨k + 1, by omega, HW.out.1, HW.out.2.2.1, HW.out.2.1⟩
      case measure => rw [HW.out.2.2.2]; simp only [slLen]; omega
    · have hkk : k = m := by omega
      subst hkk
      have hz : c.drop k = [] := List.drop_eq_nil_of_le (by rw [HM.out]; exact Nat.le_refl _)
      rw [Nat.sub_self] at hc0
      have HZ := toHid hz
      clear hz
      go_wp2
      go_ret
      refine ⟨_, rfl, ?_, ?_, HK.out.2.2⟩
      · have h := HK.out.1
        rwa [List.take_of_length_le (by rw [HM.out]; exact Nat.le_refl _)] at h
      · have h := HK.out.2.1
        rw [HZ.out] at h
        exact h
end Go.Proofs.YtajebdpalnpjdaaGreatDoor
