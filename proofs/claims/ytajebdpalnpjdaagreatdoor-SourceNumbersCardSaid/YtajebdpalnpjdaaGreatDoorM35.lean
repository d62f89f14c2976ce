/-
  reader.sets, and a call that is read.
  A rule that is read.
  The line of a rule.
-/
import Derived.Test.YtajebdpalnpjdaaGreatDoorM34
import Derived.Test.YtajebdpalnpjdaaGreatDoorM23
namespace Go.Proofs.YtajebdpalnpjdaaGreatDoor
open Go.RowKit
attribute [local go_sem] alloc_drewN setCell_drewN

theorem OwnSets.snoc {w w' : World} {base k : Nat} {v v' u : Value} {c : List (List Int)} {s : List Int} {vs : List Value} (h : w.ownsRow base 24 1 v k vs) (hi : ∀ (i : Nat) (s : List Int), (c.take k)[i]? = some s → ∃ u, vs[i]? = some u ∧ OwnI w base u s) (hu : OwnI w base u s)
    (h' : w'.ownsRow base 24 1 v' (k + 1) (vs ++ [u])) (e : Ext (fun b => v.ownBlock = some b) w w') (hs : c[k]? = some s) : OwnSets w' base v' (c.take (k + 1)) := by
  have hk := (List.getElem?_eq_some_iff.1 hs).1
  have e1 : c.take (k + 1) = c.take k ++ [s] := by rw [List.take_succ_eq_append_getElem hk, (List.getElem?_eq_some_iff.1 hs).2]
  have hlv : vs.length = k := by rw [h.1, Nat.mul_one]
  have hlt : (c.take k).length = k := by rw [List.length_take]; omega
  have keep : ∀ {u : Value} {s : List Int}, OwnI w base u s → OwnI w' base u s := fun ho => own_ext ho e (fun g hg z => own_apart ho h (by decide) g hg z)
  refine ⟨vs ++ [u], ?_, fun i x hx => ?_⟩
  · rw [List.length_take, Nat.min_eq_left (by omega)]
    exact h'
  · rw [e1] at hx
    by_cases hik : i < k
    · rw [List.getElem?_append_left (by omega)] at hx
      obtain ⟨y, hy, ho⟩ := hi i x hx
      exact ⟨y, by rw [List.getElem?_append_left (by omega)]; exact hy, keep ho⟩
    · rw [List.getElem?_append_right (by omega), hlt] at hx
      have h0 : i - k = 0 := by
        have := (List.getElem?_eq_some_iff.1 hx).1
        simp at this
        omega
      rw [h0] at hx
      have hx : s = x := by simpa using hx
      subst hx
      exact ⟨u, by rw [List.getElem?_append_right (by omega), hlv, h0]; rfl, keep hu⟩
theorem OwnSets.snoc_nil {w : World} {base : Nat} {v : Value} {c : List (List Int)} (h : OwnSets w base v c) : ∃ vs, w.ownsRow base 24 1 v c.length vs ∧ ∀ (i : Nat) (s : List Int), c[i]? = some s → ∃ u, vs[i]? = some u ∧ OwnI w base u s := h
theorem joinB_nums_size {s : List Int} (h : Set7 s) : (joinB 44 (s.map num)).size ≤ 100000 := by
  have hn : ∀ l : List Int, (∀ n ∈ l, -9999999 ≤ n ∧ n ≤ 9999999) → (joinC 44 ((l.map num).map fun b => b.data.toList)).length ≤ 22 * l.length := by
    intro l
    induction l with
    | nil => intro _; simp [joinC]
    | cons n l ih =>
      intro hl
      have h1 := num_size (n := n) (by have := hl n List.mem_cons_self; omega) (by have := hl n List.mem_cons_self; omega)
      have h3 : ∀ b : ByteArray, b.size = b.data.toList.length := fun b => by show b.data.size = _; simp
      rw [h3] at h1
      have h2 := ih (fun x hx => hl x (List.mem_cons_of_mem _ hx))
      cases l with
      | nil =>
        show (num n).data.toList.length ≤ 22 * 1
        omega
      | cons m l =>
        simp only [List.map_cons, joinC, List.length_append, List.length_cons] at h2 ⊢
        omega
  have h3 : ∀ b : ByteArray, b.size = b.data.toList.length := fun b => by show b.data.size = _; simp
  rw [h3, joinB_list]
  have := hn s h.2.2
  have := h.2.1
  omega
theorem setS_size {s : List Int} (h : Set7 s) : (setS s).size ≤ 100002 := by
  have h3 : ∀ b : ByteArray, b.size = b.data.toList.length := fun b => by show b.data.size = _; simp
  have h1 := joinB_nums_size h
  rw [h3] at h1 ⊢
  rw [setS_list]
  simp only [List.length_cons, List.length_append, List.length_nil]
  omega
def setT (s : List Int) : ByteArray := ⟨((joinB 44 (s.map num)).data.toList ++ [125]).toArray⟩
theorem cut_pre (s : List Int) (W : World) : Calls Tryz.prog 204 #[.string (setS s), .string ⟨#[123]⟩] W (fun e w' => e = .returned (.tuple #[.string (setT s), .bool true]) ∧ W = w') := by
  have h := Tryz.strings_CutPrefix (setS s) ⟨#[123]⟩ W
  have e : (⟨#[123]⟩ : ByteArray).data.toList = [123] := rfl
  rw [e, (set_pre s).1, (set_pre s).2] at h
  exact h.mono fun e w' ⟨h1, h2⟩ => ⟨h1, h2.symm⟩
theorem setT_list (s : List Int) : (setT s).data.toList = (joinB 44 (s.map num)).data.toList ++ [125] := by
  unfold setT
  simp
theorem cut_suf {s : List Int} (hs : Set7 s) (W : World) : Calls Tryz.prog 132 #[.string (setT s), .string ⟨#[125]⟩] W (fun e w' => e = .returned (.tuple #[.string (joinB 44 (s.map num)), .bool true]) ∧ W = w') := by
  have h3 : ∀ b : ByteArray, b.size = b.data.toList.length := fun b => by show b.data.size = _; simp
  have h1 := joinB_nums_size hs
  have h := Tryz.strings_CutSuffix (setT s) ⟨#[125]⟩ W (by
    rw [h3] at h1 ⊢
    rw [setT_list, List.length_append]
    simp only [List.length_cons, List.length_nil]
    omega)
  have e : (⟨#[125]⟩ : ByteArray).data.toList = [125] := rfl
  rw [e, setT_list, (set_suf _).1, (set_suf _).2] at h
  exact h.mono fun e w' ⟨h1, h2⟩ => ⟨by rw [h1], h2.symm⟩
set_option maxRecDepth 100000 in
set_option maxHeartbeats 4000000 in
/-- reader.sets -/
theorem sets_read {w : World} (G : Glob w) (hg : 11 ≤ w.heap.size) {rb : Nat} {B : Nat → Prop} {cs : List Value} (hb : 11 ≤ rb) {c : List (List Int)} {stop : ByteArray} {more : List ByteArray} (h : RL w rb B cs (c.map setS ++ stop :: more)) (hB : ∀ b, B b → b < w.heap.size) (hc : ∀ s ∈ c, Set7 s) (hl : c.length ≤ 100000)
    {A : Nat → Prop} {ve : Value} {ends : List ByteArray} (he : Rd A w [ve] (.l 1 (ends.map .s))) (hA : ∀ b, A b → b ≠ rb) (hin : Lib.containsS ends stop = true) (hno : ∀ s ∈ c, Lib.containsS ends (setS s) = false) :
    Calls Tryz.prog 136 #[ptr rb, ve] w fun e w' => ∃ vo, e = .returned (.tuple #[vo, .string stop]) ∧ OwnSets w' w.heap.size vo c ∧ RL w' rb B cs more ∧ Ext (fun b => b = rb) w w' := by
  have HG := toHid G
  have HL := toHid h
  have HC := toHid (show _ ∧ _ ∧ _ from ⟨hc, hin, hno⟩)
  have HB := toHid hB
  obtain ⟨a9, c9, hve, _⟩ := he.len
  rw [List.length_map] at hve
  generalize hen : ends.length = n9 at hve
  have HE := toHid (show ∀ W, Ext (fun b => b = rb) w W → Rd A W [ve] (.l 1 (ends.map .s)) from fun W e => he.ext e (fun b hb z => hA b hb z))
  have hrb : Hid (rb < w.heap.size) := h.lt
  subst hve
  obtain ⟨m, HM⟩ : ∃ m, Hid (c.length = m) := ⟨_, rfl⟩
  rw [HM.out] at hl
  obtain ⟨i0, hi, hz0, hz1, hz2⟩ := info_parts infoInts
  have HI := toHid (show _ ∧ _ ∧ _ ∧ _ from ⟨hi, hz0, hz1, hz2⟩)
  clear G h hc hB he hA hin hno hi hz0 hz1 hz2 hen
  go_enter Tryz.func136, Tryz.ntmps136
  go_wp2_with fail
  go_loopw [6] (fun o wr => ∃ k : Nat, k ≤ m ∧ OwnSets wr w.heap.size o (c.take k) ∧ RL wr rb B cs ((c.drop k).map setS ++ stop :: more) ∧ Ext (fun b => b = rb) w wr) (fun o _ => m - slLen o)
  case atStart => exact ⟨0, Nat.zero_le _, OwnSets.nil _ _, HL.out, Ext.refl _ _⟩
  case round =>
    obtain ⟨k, hk, hO, hR, hE⟩ := hrel
    rename World => wr
    have HK := toHid (show _ ∧ _ ∧ _ from ⟨hO, hR, hE⟩)
    obtain ⟨av, cv, hv, _⟩ := hO.shape
    rw [List.length_take, HM.out, Nat.min_eq_left hk] at hv
    subst hv
    clear hO hE
    by_cases hkm : k < m
    · obtain ⟨s, hs⟩ := nth_some hkm HM.out
      have e : c.drop k = s :: c.drop (k + 1) := by rw [List.drop_eq_getElem_cons (List.getElem?_eq_some_iff.1 hs).1, (List.getElem?_eq_some_iff.1 hs).2]
      rw [e, List.map_cons, List.cons_append] at hR
      have HN := toHid (next_some hR)
      have hs7 := HC.out.1 s (List.mem_of_getElem? hs)
      have HP := toHid (show _ ∧ _ from ⟨hs7, hs⟩)
      have HJ := toHid (join_ne hs7.1)
      have HNo := toHid (HC.out.2.2 s (List.mem_of_getElem? hs))
      have HC1 := toHid (cut_pre s)
      have HC2 := toHid (cut_suf hs7)
      have HV := toHid (show ∀ W, Glob W → 11 ≤ W.heap.size → Calls Tryz.prog 62 #[.string (joinB 44 (s.map num)), .string ⟨#[44]⟩, .int .i64 (-1)] W (fun e w' => ∃ v, e = .returned v ∧ OwnI w' W.heap.size v s ∧ Ext Nope W w') from fun W GW hW =>
        values_ok GW hW 44 (by decide) (by decide) (l := s) (by intro z; subst z; exact absurd hs7.1 (by simp)) hs7.2.2 (joinB_nums_size hs7) (-1) (.inr (by omega)))
      clear hR e hs hs7
      generalize setS s = t0 at *
      generalize setT s = t1 at *
      generalize joinB 44 (s.map num) = t2 at *
      have hj : (t2.toList == []) = false := HJ.out
      go_wp2_with fail
      refine HN.out.mono ?_
      rintro e w2 ⟨rfl, _, r2, e2⟩
      have hcc := toHid (contains_calls (HE.out w2 (HK.out.2.2.trans e2 (fun _ _ z => z))) t0)
      rw [HNo.out] at hcc
      have HO2 : Hid (OwnSets w2 w.heap.size (.slice av k cv) (c.take k)) := HK.out.1.ext e2 (fun b _ _ _ hb _ _ z => by have h2 := hrb.out; have z : b = rb := z; omega)
      have H2 := toHid (show _ ∧ _ from ⟨r2, HK.out.2.2.trans e2 (fun _ _ z => z)⟩)
      clear r2 e2 HN
      go_wp2_with fail
      refine hcc.out.mono ?_
      rintro e w3 ⟨rfl, rfl⟩
      clear hcc
      go_wp2_with fail
      refine (HC1.out _).mono ?_
      rintro e w3 ⟨rfl, rfl⟩
      go_wp2_with fail
      refine (HC2.out _).mono ?_
      rintro e w3 ⟨rfl, rfl⟩
      go_wp2_with fail
      refine (need_yes _).mono ?_
      rintro e w3 ⟨rfl, rfl⟩
      go_wp2_with fail
      refine (HV.out _ (HG.out.ext H2.out.2 (fun g hg z => by have z : g = rb := z; omega)) (Nat.le_trans hg H2.out.2.size)).mono ?_
      rintro e w3 ⟨v, rfl, o3, e3⟩
      have o3' : OwnI w3 w.heap.size v s := o3.mono H2.out.2.size
      obtain ⟨va, vc, hvv, _⟩ := own_gen o3
      generalize s.length = sl at hvv
      subst hvv
      have HO3 : Hid (OwnSets w3 w.heap.size (.slice av k cv) (c.take k)) := HO2.out.ext0 e3
      have H3 := toHid (show _ ∧ _ ∧ _ from ⟨H2.out.1.ext0 e3, ext0 H2.out.2 e3, o3'⟩)
      clear o3 e3 o3' HO2
      obtain ⟨vs, hown, hels⟩ := HO3.out
      rw [List.length_take, HM.out, Nat.min_eq_left hk] at hown
      have HEL := toHid hels
      clear hels
      obtain ⟨hi, hz0, hz1, hz2⟩ := HI.out
      go_wp2_with (first | (at_builtin; refine wpList_append_own _ rfl (.tmp 38) (.tmp 41) 78 rfl w.heap.size 24 i0 _ 1 24 Tryz.underlying78 hi hz0 hz1 hz2 rfl (by decide) _ _ _ rfl (hown.alloc _) ⟨w3.heap.size, 0, none⟩ 1 1 [.slice va sl vc] rfl rfl (blk_at (heap_alloc_new w3 _)) (by intro u hu; simp at hu; subst hu; rfl) (by unfold maxLen; omega) (by omega) (by have h1 := H3.out.2.1.size; simp; omega) ?_))
      intro v' w' hown' hgrow0 _
      have hgrow : World.grownBy _ w' (Value.slice av k cv).ownBlock := hgrow0
      clear hgrow0
      have e4 : Ext (fun b => (Value.slice av k cv).ownBlock = some b) w3 w' := Ext.grown ((Ext.refl _ _).alloc _) hgrow (fun g hg _ => hg)
      have hl' : slLen v' = k + 1 := by
        obtain ⟨_, _, hv', _⟩ := own_gen hown'
        rw [hv']; rfl
      have HW := toHid (show _ ∧ _ ∧ _ ∧ _ from ⟨OwnSets.snoc hown HEL.out H3.out.2.2 hown' e4 HP.out.2, Ext.grown (H3.out.2.1.alloc _) hgrow (fun g hg hlt => absurd hlt (by have := (World.ownsRow.lt hown g hg).1; omega)),
        H3.out.1.ext e4 (fun z => by have h1 := (World.ownsRow.lt hown rb z).1; have h2 := hrb.out; omega) (fun b hb z => by have h1 := (World.ownsRow.lt hown b z).1; have h2 := HB.out b hb.2; omega), hl'⟩)
      clear hown' hgrow hown hi hz0 hz1 hz2 hl' e4
      go_wp2
      go_roundw
      case rel => exact ⟨k + 1, by omega, HW.out.1, HW.out.2.2.1, HW.out.2.1⟩
      case measure => rw [HW.out.2.2.2]; simp only [slLen]; omega
    · have hkk : k = m := by omega
      subst hkk
      have hz : c.drop k = [] := List.drop_eq_nil_of_le (by rw [HM.out]; exact Nat.le_refl _)
      rw [hz, List.map_nil, List.nil_append] at hR
      have HN := toHid (next_some hR)
      clear hR hz
      go_wp2_with fail
      refine HN.out.mono ?_
      rintro e w2 ⟨rfl, _, r2, e2⟩
      have hcc := toHid (contains_calls (HE.out w2 (HK.out.2.2.trans e2 (fun _ _ z => z))) stop)
      rw [HC.out.2.1] at hcc
      have HO2 : Hid (OwnSets w2 w.heap.size (.slice av k cv) (c.take k)) := HK.out.1.ext e2 (fun b _ _ _ hb _ _ z => by have h2 := hrb.out; have z : b = rb := z; omega)
      have H2 := toHid (show _ ∧ _ from ⟨r2, HK.out.2.2.trans e2 (fun _ _ z => z)⟩)
      clear r2 e2 HN
      go_wp2_with fail
      refine hcc.out.mono ?_
      rintro e w3 ⟨rfl, rfl⟩
      clear hcc
      go_wp2
      go_ret2
      refine ⟨_, rfl, ?_, H2.out.1, H2.out.2⟩
      have h := HO2.out
      rwa [List.take_of_length_le (by rw [HM.out]; exact Nat.le_refl _)] at h
end Go.Proofs.YtajebdpalnpjdaaGreatDoor
namespace Go.Proofs.YtajebdpalnpjdaaGreatDoor
open Go.RowKit
attribute [local go_sem] alloc_drewN setCell_drewN

/-- A pair that is read: numbers of at most seven digits. -/
def Pair7 (p : Int × Int) : Prop := (-9999999 ≤ p.1 ∧ p.1 ≤ 9999999) ∧ (-9999999 ≤ p.2 ∧ p.2 ≤ 9999999)
set_option maxRecDepth 100000 in
set_option maxHeartbeats 1000000 in
/-- the closure of reader.rule -/
theorem call_read {w : World} (G : Glob w) (hg : 11 ≤ w.heap.size) {p : Int × Int} (hp : Pair7 p) : Calls Tryz.prog 139 #[.string (callS p)] w fun e w' => e = .returned (.agg #[.int .i64 p.1, .int .i64 p.2]) ∧ Ext Nope w w' := by
  have HV := toHid (show ∀ W, Glob W → 11 ≤ W.heap.size → Calls Tryz.prog 62 #[.string (callS p), .string ⟨#[58]⟩, .int .i64 2] W (fun e w' => ∃ v, e = .returned v ∧ OwnI w' W.heap.size v [p.1, p.2] ∧ Ext Nope W w') from fun W GW hW =>
    values_ok GW hW 58 (by decide) (by decide) (l := [p.1, p.2]) (by simp) (fun n hn => by simp at hn; rcases hn with rfl | rfl; exact hp.1; exact hp.2) (Nat.le_trans (join2_size (by have := hp.1; unfold i64; omega) (by have := hp.2; unfold i64; omega)) (by omega)) 2 (.inl rfl))
  have HG := toHid G
  clear G hp
  generalize callS p = s at *
  go_enter Tryz.func139, Tryz.ntmps139
  go_wp2_with fail
  have hb := heap_alloc_new w (.cells #[.int .i64 0, .int .i64 0] 184)
  have e1 : Ext Nope w (w.alloc (.cells #[.int .i64 0, .int .i64 0] 184)) := (Ext.refl _ _).alloc _
  have H1 := toHid (show _ ∧ _ from ⟨hb, e1⟩)
  clear hb e1
  refine (HV.out _ (HG.out.ext0 H1.out.2) (by simp; omega)).mono ?_
  rintro e w3 ⟨v, rfl, o3, e3⟩
  obtain ⟨g0, cap, hv, hcap, _, hgg⟩ := own_gen o3
  obtain ⟨g, rfl⟩ := hgg (by simp)
  have hv : v = .slice (some ⟨g, 0, none⟩) 2 cap := hv
  subst hv
  have c0 : w3.cell? ⟨g, 0, none⟩ = some (.int .i64 p.1) := own_cell o3 (j := 0) rfl
  have c1 : w3.cell? ⟨g, 1, none⟩ = some (.int .i64 p.2) := own_cell o3 (j := 1) rfl
  have hb := (e3.block _ (lt_of_heap H1.out.1) (fun z => z)).trans H1.out.1
  have H3 := toHid (show _ ∧ _ from ⟨ext0 H1.out.2 e3, hb⟩)
  have d0 : w3.cell? ⟨w.heap.size, 0, none⟩ = some (.int .i64 0) := by rw [show (⟨w.heap.size, 0, none⟩ : Addr) = at_ w.heap.size 0 from rfl, cell_of_blk hb]; rfl
  have d1 : w3.cell? ⟨w.heap.size, 1, none⟩ = some (.int .i64 0) := by rw [show (⟨w.heap.size, 1, none⟩ : Addr) = at_ w.heap.size 1 from rfl, cell_of_blk hb]; rfl
  have f0 : w3.frozen? ⟨w.heap.size, 0, none⟩ = false := free_of_blk hb 0
  have f1 : w3.frozen? ⟨w.heap.size, 1, none⟩ = false := free_of_blk hb 1
  clear o3 e3 hb hgg hcap
  go_wp2_with fail
  go_still_tail 7, (by kernel_rfl)
  change wpList _ _ _ _ _ w3.drew
  have d0' : w3.drew.cell? ⟨w.heap.size, 0, none⟩ = some (.int .i64 0) := d0
  have d1' : w3.drew.cell? ⟨w.heap.size, 1, none⟩ = some (.int .i64 0) := d1
  have f0' : w3.drew.frozen? ⟨w.heap.size, 0, none⟩ = false := f0
  have f1' : w3.drew.frozen? ⟨w.heap.size, 1, none⟩ = false := f1
  clear c0 c1
  go_wp2
  have e4 : Ext Nope w ((w3.setCell ⟨w.heap.size, 0, none⟩ (.int .i64 p.1)).setCell ⟨w.heap.size, 1, none⟩ (.int .i64 p.2)).drew :=
    (Ext.setCell (S := Nope) (Ext.setCell (S := Nope) H3.out.1 _ 0 (fun z => absurd z (by omega)) _) _ 1 (fun z => absurd z (by omega)) _).drew
  exact bodyPost_ret (v := .agg #[.int .i64 p.1, .int .i64 p.2]) (by simp [results, Tryz.results139, go_sem, d0, d1]) rfl ⟨rfl, e4⟩
theorem ent_call_read : Enters 139 := enters_of Tryz.func139 (by kernel_rfl) rfl
theorem ent_value : Enters 129 := enters_of Tryz.func129 (by kernel_rfl) rfl
theorem reads_calls {rb : Nat} {B : Nat → Prop} {cs : List Value} {w : World} (G : Glob w) (hg : 11 ≤ w.heap.size) (hb : 11 ≤ rb) {c : List (Int × Int)} (hc : ∀ p ∈ c, Pair7 p) : Reads 139 #[] rb B cs w c callS (fun _ => []) (fun x => .agg #[.int .i64 x.1, .int .i64 x.2]) := by
  intro W x more hx hE hR
  rw [Array.append_empty]
  refine (call_read (G.ext hE (fun g hg z => by have z : g = rb := z; omega)) (Nat.le_trans hg hE.size) (hc x hx)).mono ?_
  rintro e w' ⟨rfl, e1⟩
  exact ⟨rfl, hR.ext0 e1, e1.mono (fun _ z => z.elim)⟩
theorem reads_ints {rb : Nat} {B : Nat → Prop} {cs : List Value} {w : World} (G : Glob w) (hb : 11 ≤ rb) {c : List Int} (hc : ∀ n ∈ c, -9999999 ≤ n ∧ n ≤ 9999999) : Reads 129 #[] rb B cs w c num (fun _ => []) (fun x => .int .i64 x) := by
  intro W x more hx hE hR
  rw [Array.append_empty]
  refine (value_ok (G.ext hE (fun g hg z => by have z : g = rb := z; omega)) (hc x hx).1 (hc x hx).2).mono ?_
  rintro e w' ⟨rfl, e1⟩
  exact ⟨rfl, hR.ext0 e1, e1.mono (fun _ z => z.elim)⟩
theorem flat1 {X : Type} (f : X → ByteArray) (c : List X) : (c.flatMap fun x => f x :: (fun _ => []) x) = c.map f := by
  induction c with
  | nil => rfl
  | cons x c ih => rw [List.flatMap_cons, ih]; rfl
/-- A rule that is read. -/
structure RuleR (r : RuleA) : Prop where
  back : ∀ s ∈ r.back, Set7 s
  in_ : ∀ s ∈ r.in_, Set7 s
  ahead : ∀ s ∈ r.ahead, Set7 s
  out : ∀ n ∈ r.out, -9999999 ≤ n ∧ n ≤ 9999999
  calls : ∀ p ∈ r.calls, Pair7 p
  few : r.back.length ≤ 100 ∧ r.in_.length ≤ 100 ∧ r.ahead.length ≤ 100 ∧ r.out.length ≤ 100 ∧ r.calls.length ≤ 100
  one : r.calls = [] ∨ r.out = []
/-- The words of a rule's line. -/
def ruleW (r : RuleA) : List ByteArray := r.back.map setS ++ k_bar :: (r.in_.map setS ++ k_bar :: (r.ahead.map setS ++ endsS r))
/-- A rule's slices, of one's own. -/
def OwnRule (w : World) (base : Nat) (vb vi va vo vc : Value) (r : RuleA) : Prop := OwnSets w base vb r.back ∧ OwnSets w base vi r.in_ ∧ OwnSets w base va r.ahead ∧ OwnI w base vo r.out ∧ OwnT 184 w base vc r.calls
theorem setS_not {s : List Int} {l : List ByteArray} (h : ∀ x ∈ l, x.data.toList.head? ≠ some 123) : Lib.containsS l (setS s) = false := by
  rw [← Bool.not_eq_true, Lib.containsS_iff]
  intro hm
  exact h _ hm (by rw [setS_list]; rfl)
theorem store5 {w : World} {b : Nat} {T : TypeId} {x0 x1 x2 x3 x4 v0 v1 v2 v3 v4 : Value} (h : w.heap[b]? = some (.cells #[x0, x1, x2, x3, x4] T (0, 0))) :
    (((((w.setCell ⟨b, 0, none⟩ v0).setCell ⟨b, 1, none⟩ v1).setCell ⟨b, 2, none⟩ v2).setCell ⟨b, 3, none⟩ v3).setCell ⟨b, 4, none⟩ v4).heap[b]? = some (.cells #[v0, v1, v2, v3, v4] T (0, 0)) ∧ Ext (fun i => i = b) w (((((w.setCell ⟨b, 0, none⟩ v0).setCell ⟨b, 1, none⟩ v1).setCell ⟨b, 2, none⟩ v2).setCell ⟨b, 3, none⟩ v3).setCell ⟨b, 4, none⟩ v4) := by
  have h0 : (w.setCell ⟨b, 0, none⟩ v0).heap[b]? = some (.cells #[v0, x1, x2, x3, x4] T (0, 0)) := heap_setCell_eq w b 0 v0 _ _ _ h
  have h1 : ((w.setCell ⟨b, 0, none⟩ v0).setCell ⟨b, 1, none⟩ v1).heap[b]? = some (.cells #[v0, v1, x2, x3, x4] T (0, 0)) := heap_setCell_eq (w.setCell ⟨b, 0, none⟩ v0) b 1 v1 _ _ _ h0
  have h2 : (((w.setCell ⟨b, 0, none⟩ v0).setCell ⟨b, 1, none⟩ v1).setCell ⟨b, 2, none⟩ v2).heap[b]? = some (.cells #[v0, v1, v2, x3, x4] T (0, 0)) := heap_setCell_eq ((w.setCell ⟨b, 0, none⟩ v0).setCell ⟨b, 1, none⟩ v1) b 2 v2 _ _ _ h1
  have h3 : ((((w.setCell ⟨b, 0, none⟩ v0).setCell ⟨b, 1, none⟩ v1).setCell ⟨b, 2, none⟩ v2).setCell ⟨b, 3, none⟩ v3).heap[b]? = some (.cells #[v0, v1, v2, v3, x4] T (0, 0)) := heap_setCell_eq (((w.setCell ⟨b, 0, none⟩ v0).setCell ⟨b, 1, none⟩ v1).setCell ⟨b, 2, none⟩ v2) b 3 v3 _ _ _ h2
  have h4 : (((((w.setCell ⟨b, 0, none⟩ v0).setCell ⟨b, 1, none⟩ v1).setCell ⟨b, 2, none⟩ v2).setCell ⟨b, 3, none⟩ v3).setCell ⟨b, 4, none⟩ v4).heap[b]? = some (.cells #[v0, v1, v2, v3, v4] T (0, 0)) := heap_setCell_eq ((((w.setCell ⟨b, 0, none⟩ v0).setCell ⟨b, 1, none⟩ v1).setCell ⟨b, 2, none⟩ v2).setCell ⟨b, 3, none⟩ v3) b 4 v4 _ _ _ h3
  exact ⟨h4, Ext.setCell (S := fun i => i = b) (Ext.setCell (S := fun i => i = b) (Ext.setCell (S := fun i => i = b) (Ext.setCell (S := fun i => i = b) (Ext.setCell (S := fun i => i = b) (Ext.refl _ _) b 0 (fun _ => rfl) _) b 1 (fun _ => rfl) _) b 2 (fun _ => rfl) _) b 3 (fun _ => rfl) _) b 4 (fun _ => rfl) _⟩
set_option maxRecDepth 100000 in
set_option maxHeartbeats 3000000 in
/-- reader.rule -/
theorem rule_read {w : World} (G : Glob w) (hg : 11 ≤ w.heap.size) {rb : Nat} {B : Nat → Prop} {cs : List Value} (hb : 11 ≤ rb) (hB : ∀ b, B b → b < w.heap.size) {r : RuleA} (hr : RuleR r) (h : RL w rb B cs (ruleW r)) :
    Calls Tryz.prog 68 #[ptr rb] w fun e w' => ∃ vb vi va vo vc, e = .returned (.agg #[vb, vi, va, vo, vc]) ∧ OwnRule w' w.heap.size vb vi va vo vc r ∧ RL w' rb B cs [] ∧ Ext (fun b => b = rb) w w' := by
  have HG := toHid (show ∀ W, Ext (fun b => b = rb) w W → Glob W from fun W e => G.ext e (fun g hg z => by have z : g = rb := z; omega))
  have HL := toHid h
  have HR := toHid hr
  have HB := toHid hB
  have hrb : Hid (rb < w.heap.size) := h.lt
  clear G h hr hB
  have hentc := ent_call_read
  have hentv := ent_value
  go_enter Tryz.func68, Tryz.ntmps68
  go_wp2_with fail
  have e1 : Ext (fun b => b = rb) w (w.alloc (.cells #[.slice none 0 0, .slice none 0 0, .slice none 0 0, .slice none 0 0, .slice none 0 0] 81)) := (Ext.refl _ _).alloc _
  have b1 := heap_alloc_new w (.cells #[.slice none 0 0, .slice none 0 0, .slice none 0 0, .slice none 0 0, .slice none 0 0] 81)
  have r1 : RL (w.alloc (.cells #[.slice none 0 0, .slice none 0 0, .slice none 0 0, .slice none 0 0, .slice none 0 0] 81)) rb B cs (ruleW r) := HL.out.ext0 ((Ext.refl _ _).alloc _)
  have HS0 : Hid (w.heap.size < (w.alloc (.cells #[.slice none 0 0, .slice none 0 0, .slice none 0 0, .slice none 0 0, .slice none 0 0] 81)).heap.size) := by show _ < _; simp
  have HB0 : Hid ((w.alloc (.cells #[.slice none 0 0, .slice none 0 0, .slice none 0 0, .slice none 0 0, .slice none 0 0] 81)).heap.size = w.heap.size + 1) := by show _ = _; simp
  obtain ⟨NB0, HX0⟩ : ∃ N, Hid (w.heap.size + 1 = N) := ⟨_, rfl⟩
  rw [HX0.out] at HB0 ⊢
  generalize w.alloc (.cells #[.slice none 0 0, .slice none 0 0, .slice none 0 0, .slice none 0 0, .slice none 0 0] 81) = w1 at *
  unfold ruleW at r1
  have H1 := toHid (show _ ∧ _ ∧ _ from ⟨b1, r1, e1⟩)
  clear e1 b1 r1
  have e2 : Ext Nope w1 (w1.alloc (.cells #[.string k_bar] 9)) := (Ext.refl _ _).alloc _
  have hz := heap_alloc_new w1 (.cells #[.string k_bar] 9)
  rw [HB0.out] at hz
  have hzz : Hid (w1.heap.size ≤ (w1.alloc (.cells #[.string k_bar] 9)).heap.size) := by show _ ≤ _; simp
  have hrw : w.heap.size < w1.heap.size := by first | exact HS0.out
  refine (sets_read (A := fun b => b = NB0) (ends := [k_bar]) (c := r.back) (HG.out _ (H1.out.2.2.trans e2 (fun _ _ z => z.elim))) (by have := hzz.out; omega) hb (H1.out.2.1.ext0 e2) (fun b z => by have := HB.out b z; have := hzz.out; omega) (HR.out.back) (by have := HR.out.few; omega) (Rd.strs (A := fun b => b = NB0) (l := [k_bar]) hz rfl (by decide) 1 (by decide) (by decide)) (fun b z1 z2 => by have z1 : b = NB0 := z1; have := hrb.out; have := HB0.out; omega) (by decide) (fun s _ => setS_not (by decide))).mono ?_
  rintro e w' ⟨v0, rfl, o2, r2, e3⟩
  have e4 : Ext (fun b => b = rb) w1 w' := (e2.mono (fun _ z => z.elim)).trans e3 (fun _ _ z => z)
  have b2 := (e4.block _ (lt_of_heap H1.out.1) (fun z => by have z : w.heap.size = rb := z; have := hrb.out; omega)).trans H1.out.1
  have o3 : OwnSets w' w1.heap.size v0 r.back := o2.mono hzz.out
  have o4 : OwnSets w' (w.heap.size + 1) v0 r.back := o3.mono hrw
  obtain ⟨a0, c0, hv, _⟩ := o4.shape
  obtain ⟨n0, HN0⟩ : ∃ n, Hid (r.back.length = n) := ⟨_, rfl⟩
  rw [HN0.out] at hv
  subst hv
  have d0 : w'.cell? ⟨w.heap.size, 0, none⟩ = some (.slice none 0 0) := by rw [show (⟨w.heap.size, 0, none⟩ : Addr) = at_ w.heap.size 0 from rfl, cell_of_blk b2]; rfl
  have f0 : w'.frozen? ⟨w.heap.size, 0, none⟩ = false := free_of_blk b2 0
  have e5 : Ext (fun b => b = w.heap.size) w' (w'.setCell ⟨w.heap.size, 0, none⟩ (.slice a0 n0 c0)) := Ext.setCell (S := fun b => b = w.heap.size) (Ext.refl _ _) _ 0 (fun _ => rfl) _
  have b3 : (w'.setCell ⟨w.heap.size, 0, none⟩ (.slice a0 n0 c0)).heap[w.heap.size]? = some (.cells #[.slice a0 n0 c0, .slice none 0 0, .slice none 0 0, .slice none 0 0, .slice none 0 0] 81 (0, 0)) := by rw [heap_setCell_eq _ _ _ _ _ _ _ b2]; rfl
  have r3 : RL (w'.setCell ⟨w.heap.size, 0, none⟩ (.slice a0 n0 c0)) rb B cs (r.in_.map setS ++ k_bar :: (r.ahead.map setS ++ endsS r)) := r2.ext e5 (fun z => by have z : rb = w.heap.size := z; have := hrb.out; omega) (fun b hb z => by have z : b = w.heap.size := z; have := HB.out b hb.2; omega)
  have e6 : Ext (fun b => b = rb) w (w'.setCell ⟨w.heap.size, 0, none⟩ (.slice a0 n0 c0)) := Ext.setCell (S := fun b => b = rb) (H1.out.2.2.trans e4 (fun _ _ z => z)) _ 0 (fun z => absurd z (by omega)) _
  have q0 := OwnSets.ext o4 e5 (fun b _ _ _ hb _ _ z => by have z : b = w.heap.size := z; omega)
  have s6 : Hid (w.heap.size < (w'.setCell ⟨w.heap.size, 0, none⟩ (.slice a0 n0 c0)).heap.size) := by show _ < _; have := e4.size; have := e5.size; omega
  have H2 := toHid (show _ ∧ _ ∧ _ ∧ _ from ⟨b3, r3, e6, q0⟩)
  have HS1 := s6
  clear e2 hz hzz o2 r2 e3 e4 b2 o3 o4 e5 b3 r3 e6 s6 q0 H1 HS0 hrw
  obtain ⟨NB1, HX1⟩ : ∃ N, Hid (w'.heap.size = N) := ⟨_, rfl⟩
  have HB1 : Hid ((w'.setCell ⟨w.heap.size, 0, none⟩ (.slice a0 n0 c0)).heap.size = NB1) := by show _ = _; rw [← HX1.out]; simp
  go_wp2_with fail
  clear d0 f0
  try rw [HX1.out]
  generalize w'.setCell ⟨w.heap.size, 0, none⟩ (.slice a0 n0 c0) = w2 at *
  have e2 : Ext Nope w2 (w2.alloc (.cells #[.string k_bar] 9)) := (Ext.refl _ _).alloc _
  have hz := heap_alloc_new w2 (.cells #[.string k_bar] 9)
  rw [HB1.out] at hz
  have hzz : Hid (w2.heap.size ≤ (w2.alloc (.cells #[.string k_bar] 9)).heap.size) := by show _ ≤ _; simp
  have hrw : w.heap.size < w2.heap.size := by first | exact HS1.out
  refine (sets_read (A := fun b => b = NB1) (ends := [k_bar]) (c := r.in_) (HG.out _ (H2.out.2.2.1.trans e2 (fun _ _ z => z.elim))) (by have := hzz.out; omega) hb (H2.out.2.1.ext0 e2) (fun b z => by have := HB.out b z; have := hzz.out; omega) (HR.out.in_) (by have := HR.out.few; omega) (Rd.strs (A := fun b => b = NB1) (l := [k_bar]) hz rfl (by decide) 1 (by decide) (by decide)) (fun b z1 z2 => by have z1 : b = NB1 := z1; have := hrb.out; have := HB1.out; omega) (by decide) (fun s _ => setS_not (by decide))).mono ?_
  rintro e w' ⟨v1, rfl, o2, r2, e3⟩
  have e4 : Ext (fun b => b = rb) w2 w' := (e2.mono (fun _ z => z.elim)).trans e3 (fun _ _ z => z)
  have b2 := (e4.block _ (lt_of_heap H2.out.1) (fun z => by have z : w.heap.size = rb := z; have := hrb.out; omega)).trans H2.out.1
  have o3 : OwnSets w' w2.heap.size v1 r.in_ := o2.mono hzz.out
  have o4 : OwnSets w' (w.heap.size + 1) v1 r.in_ := o3.mono hrw
  obtain ⟨a1, c1, hv, _⟩ := o4.shape
  obtain ⟨n1, HN1⟩ : ∃ n, Hid (r.in_.length = n) := ⟨_, rfl⟩
  rw [HN1.out] at hv
  subst hv
  have d0 : w'.cell? ⟨w.heap.size, 1, none⟩ = some (.slice none 0 0) := by rw [show (⟨w.heap.size, 1, none⟩ : Addr) = at_ w.heap.size 1 from rfl, cell_of_blk b2]; rfl
  have f0 : w'.frozen? ⟨w.heap.size, 1, none⟩ = false := free_of_blk b2 1
  have e5 : Ext (fun b => b = w.heap.size) w' (w'.setCell ⟨w.heap.size, 1, none⟩ (.slice a1 n1 c1)) := Ext.setCell (S := fun b => b = w.heap.size) (Ext.refl _ _) _ 1 (fun _ => rfl) _
  have b3 : (w'.setCell ⟨w.heap.size, 1, none⟩ (.slice a1 n1 c1)).heap[w.heap.size]? = some (.cells #[.slice a0 n0 c0, .slice a1 n1 c1, .slice none 0 0, .slice none 0 0, .slice none 0 0] 81 (0, 0)) := by rw [heap_setCell_eq _ _ _ _ _ _ _ b2]; rfl
  have r3 : RL (w'.setCell ⟨w.heap.size, 1, none⟩ (.slice a1 n1 c1)) rb B cs (r.ahead.map setS ++ endsS r) := r2.ext e5 (fun z => by have z : rb = w.heap.size := z; have := hrb.out; omega) (fun b hb z => by have z : b = w.heap.size := z; have := HB.out b hb.2; omega)
  have e6 : Ext (fun b => b = rb) w (w'.setCell ⟨w.heap.size, 1, none⟩ (.slice a1 n1 c1)) := Ext.setCell (S := fun b => b = rb) (H2.out.2.2.1.trans e4 (fun _ _ z => z)) _ 1 (fun z => absurd z (by omega)) _
  have q0 := OwnSets.ext (OwnSets.ext (H2.out.2.2.2) e4 (fun b _ _ _ hb _ _ z => by have z : b = rb := z; have := hrb.out; omega)) e5 (fun b _ _ _ hb _ _ z => by have z : b = w.heap.size := z; omega)
  have q1 := OwnSets.ext o4 e5 (fun b _ _ _ hb _ _ z => by have z : b = w.heap.size := z; omega)
  have s6 : Hid (w.heap.size < (w'.setCell ⟨w.heap.size, 1, none⟩ (.slice a1 n1 c1)).heap.size) := by show _ < _; have := e4.size; have := e5.size; omega
  have H3 := toHid (show _ ∧ _ ∧ _ ∧ _ ∧ _ from ⟨b3, r3, e6, q0, q1⟩)
  have HS2 := s6
  clear e2 hz hzz o2 r2 e3 e4 b2 o3 o4 e5 b3 r3 e6 s6 q0 q1 H2 HS1 hrw
  obtain ⟨NB2, HX2⟩ : ∃ N, Hid (w'.heap.size = N) := ⟨_, rfl⟩
  have HB2 : Hid ((w'.setCell ⟨w.heap.size, 1, none⟩ (.slice a1 n1 c1)).heap.size = NB2) := by show _ = _; rw [← HX2.out]; simp
  go_wp2_with fail
  clear d0 f0
  try rw [HX2.out]
  generalize w'.setCell ⟨w.heap.size, 1, none⟩ (.slice a1 n1 c1) = w3 at *
  rcases Decidable.em (r.calls = []) with hcl | hcl
  · have hends : endsS r = k_gt :: r.out.map num := by unfold endsS; rw [if_pos hcl]
    rw [hends] at H3
    clear hends
    have e2 : Ext Nope w3 (w3.alloc (.cells #[.string k_gt, .string w_call] 9)) := (Ext.refl _ _).alloc _
    have hz := heap_alloc_new w3 (.cells #[.string k_gt, .string w_call] 9)
    rw [HB2.out] at hz
    have hzz : Hid (w3.heap.size ≤ (w3.alloc (.cells #[.string k_gt, .string w_call] 9)).heap.size) := by show _ ≤ _; simp
    have hrw : w.heap.size < w3.heap.size := by first | exact HS2.out
    refine (sets_read (A := fun b => b = NB2) (ends := [k_gt, w_call]) (c := r.ahead) (stop := k_gt) (HG.out _ (H3.out.2.2.1.trans e2 (fun _ _ z => z.elim))) (by have := hzz.out; omega) hb (H3.out.2.1.ext0 e2) (fun b z => by have := HB.out b z; have := hzz.out; omega) (HR.out.ahead) (by have := HR.out.few; omega) (Rd.strs (A := fun b => b = NB2) (l := [k_gt, w_call]) hz rfl (by decide) 2 (by decide) (by decide)) (fun b z1 z2 => by have z1 : b = NB2 := z1; have := hrb.out; have := HB2.out; omega) (by decide) (fun s _ => setS_not (by decide))).mono ?_
    rintro e w' ⟨v2, rfl, o2, r2, e3⟩
    have e4 : Ext (fun b => b = rb) w3 w' := (e2.mono (fun _ z => z.elim)).trans e3 (fun _ _ z => z)
    have b2 := (e4.block _ (lt_of_heap H3.out.1) (fun z => by have z : w.heap.size = rb := z; have := hrb.out; omega)).trans H3.out.1
    have o3 : OwnSets w' w3.heap.size v2 r.ahead := o2.mono hzz.out
    have o4 : OwnSets w' (w.heap.size + 1) v2 r.ahead := o3.mono hrw
    obtain ⟨a2, c2, hv, _⟩ := o4.shape
    obtain ⟨n2, HN2⟩ : ∃ n, Hid (r.ahead.length = n) := ⟨_, rfl⟩
    rw [HN2.out] at hv
    subst hv
    have d0 : w'.cell? ⟨w.heap.size, 2, none⟩ = some (.slice none 0 0) := by rw [show (⟨w.heap.size, 2, none⟩ : Addr) = at_ w.heap.size 2 from rfl, cell_of_blk b2]; rfl
    have f0 : w'.frozen? ⟨w.heap.size, 2, none⟩ = false := free_of_blk b2 2
    have e5 : Ext (fun b => b = w.heap.size) w' (w'.setCell ⟨w.heap.size, 2, none⟩ (.slice a2 n2 c2)) := Ext.setCell (S := fun b => b = w.heap.size) (Ext.refl _ _) _ 2 (fun _ => rfl) _
    have b3 : (w'.setCell ⟨w.heap.size, 2, none⟩ (.slice a2 n2 c2)).heap[w.heap.size]? = some (.cells #[.slice a0 n0 c0, .slice a1 n1 c1, .slice a2 n2 c2, .slice none 0 0, .slice none 0 0] 81 (0, 0)) := by rw [heap_setCell_eq _ _ _ _ _ _ _ b2]; rfl
    have r3 : RL (w'.setCell ⟨w.heap.size, 2, none⟩ (.slice a2 n2 c2)) rb B cs (r.out.map num) := r2.ext e5 (fun z => by have z : rb = w.heap.size := z; have := hrb.out; omega) (fun b hb z => by have z : b = w.heap.size := z; have := HB.out b hb.2; omega)
    have e6 : Ext (fun b => b = rb) w (w'.setCell ⟨w.heap.size, 2, none⟩ (.slice a2 n2 c2)) := Ext.setCell (S := fun b => b = rb) (H3.out.2.2.1.trans e4 (fun _ _ z => z)) _ 2 (fun z => absurd z (by omega)) _
    have q0 := OwnSets.ext (OwnSets.ext (H3.out.2.2.2.1) e4 (fun b _ _ _ hb _ _ z => by have z : b = rb := z; have := hrb.out; omega)) e5 (fun b _ _ _ hb _ _ z => by have z : b = w.heap.size := z; omega)
    have q1 := OwnSets.ext (OwnSets.ext (H3.out.2.2.2.2) e4 (fun b _ _ _ hb _ _ z => by have z : b = rb := z; have := hrb.out; omega)) e5 (fun b _ _ _ hb _ _ z => by have z : b = w.heap.size := z; omega)
    have q2 := OwnSets.ext o4 e5 (fun b _ _ _ hb _ _ z => by have z : b = w.heap.size := z; omega)
    have s6 : Hid (w.heap.size < (w'.setCell ⟨w.heap.size, 2, none⟩ (.slice a2 n2 c2)).heap.size) := by show _ < _; have := e4.size; have := e5.size; omega
    have H4 := toHid (show _ ∧ _ ∧ _ ∧ _ ∧ _ ∧ _ from ⟨b3, r3, e6, q0, q1, q2⟩)
    have HS3 := s6
    clear e2 hz hzz o2 r2 e3 e4 b2 o3 o4 e5 b3 r3 e6 s6 q0 q1 q2 H3 HS2 hrw
    obtain ⟨NB3, HX3⟩ : ∃ N, Hid (w'.heap.size = N) := ⟨_, rfl⟩
    have HB3 : Hid ((w'.setCell ⟨w.heap.size, 2, none⟩ (.slice a2 n2 c2)).heap.size = NB3) := by show _ = _; rw [← HX3.out]; simp
    go_wp2_with fail
    clear d0 f0
    try rw [HX3.out]
    generalize w'.setCell ⟨w.heap.size, 2, none⟩ (.slice a2 n2 c2) = w4 at *
    have r4 : RL w4 rb B cs (r.out.flatMap fun x => num x :: (fun _ => []) x) := by rw [flat1]; exact H4.out.2.1
    have hl := list_ints hentv (fun b z => Nat.lt_trans (HB.out b z) HS3.out) r4 (by have := HR.out.few; omega) (reads_ints (HG.out _ H4.out.2.2.1) hb HR.out.out)
    clear r4
    refine hl.mono ?_
    clear hl
    rintro e w' ⟨v, rfl, o2, r2, e4⟩
    have b2 := (e4.block _ (lt_of_heap H4.out.1) (fun z => by have z : w.heap.size = rb := z; have := hrb.out; omega)).trans H4.out.1
    obtain ⟨av, cv, hv, _⟩ := own_gen o2
    obtain ⟨nv, HNV⟩ : ∃ n, Hid (r.out.length = n) := ⟨_, rfl⟩
    rw [HNV.out] at hv
    subst hv
    have d0 : w'.cell? ⟨w.heap.size, 3, none⟩ = some (.slice none 0 0) := by rw [show (⟨w.heap.size, 3, none⟩ : Addr) = at_ w.heap.size 3 from rfl, cell_of_blk b2]; rfl
    have f0 : w'.frozen? ⟨w.heap.size, 3, none⟩ = false := free_of_blk b2 3
    have e5 : Ext (fun b => b = w.heap.size) w' (w'.setCell ⟨w.heap.size, 3, none⟩ (.slice av nv cv)) := Ext.setCell (S := fun b => b = w.heap.size) (Ext.refl _ _) _ 3 (fun _ => rfl) _
    have b3 : (w'.setCell ⟨w.heap.size, 3, none⟩ (.slice av nv cv)).heap[w.heap.size]? = some (.cells #[.slice a0 n0 c0, .slice a1 n1 c1, .slice a2 n2 c2, .slice av nv cv, .slice none 0 0] 81 (0, 0)) := by rw [heap_setCell_eq _ _ _ _ _ _ _ b2]; rfl
    have r3 : RL (w'.setCell ⟨w.heap.size, 3, none⟩ (.slice av nv cv)) rb B cs [] := r2.ext e5 (fun z => by have z : rb = w.heap.size := z; have := hrb.out; omega) (fun b hb z => by have z : b = w.heap.size := z; have := HB.out b hb.2; omega)
    have e6 : Ext (fun b => b = rb) w (w'.setCell ⟨w.heap.size, 3, none⟩ (.slice av nv cv)) := Ext.setCell (S := fun b => b = rb) (H4.out.2.2.1.trans e4 (fun _ _ z => z)) _ 3 (fun z => absurd z (by omega)) _
    have q0 := OwnSets.ext (OwnSets.ext (H4.out.2.2.2.1) e4 (fun b _ _ _ hb _ _ z => by have z : b = rb := z; have := hrb.out; omega)) e5 (fun b _ _ _ hb _ _ z => by have z : b = w.heap.size := z; omega)
    have q1 := OwnSets.ext (OwnSets.ext (H4.out.2.2.2.2.1) e4 (fun b _ _ _ hb _ _ z => by have z : b = rb := z; have := hrb.out; omega)) e5 (fun b _ _ _ hb _ _ z => by have z : b = w.heap.size := z; omega)
    have q2 := OwnSets.ext (OwnSets.ext (H4.out.2.2.2.2.2) e4 (fun b _ _ _ hb _ _ z => by have z : b = rb := z; have := hrb.out; omega)) e5 (fun b _ _ _ hb _ _ z => by have z : b = w.heap.size := z; omega)
    have q3 : OwnI (w'.setCell ⟨w.heap.size, 3, none⟩ (.slice av nv cv)) (w.heap.size + 1) (.slice av nv cv) r.out := own_ext (OwnI.mono o2 HS3.out) e5 (fun g hg z => by have z : g = w.heap.size := z; have := (World.ownsRow.lt o2 g hg).1; have := HS3.out; omega)
    have q4 : OwnT 184 (w'.setCell ⟨w.heap.size, 3, none⟩ (.slice av nv cv)) (w.heap.size + 1) (.slice none 0 0) r.calls := by rw [hcl]; exact OwnT.nil _ _ _
    have H9 := toHid (show _ ∧ _ ∧ _ ∧ _ ∧ _ ∧ _ ∧ _ ∧ _ from ⟨b3, r3, e6, q0, q1, q2, q3, q4⟩)
    clear o2 r2 e4 b2 e5 b3 r3 e6 q0 q1 q2 q3 q4 H4
    go_upto_region 7 with fail
    clear d0 f0
    generalize w'.setCell ⟨w.heap.size, 3, none⟩ (.slice av nv cv) = w9 at *
    obtain ⟨b9, r9, e9, q0, q1, q2, q3, q4⟩ := H9.out
    have d0 : w9.cell? ⟨w.heap.size, 0, none⟩ = some (.slice a0 n0 c0) := (rule_cells b9).1
    have d1 : w9.cell? ⟨w.heap.size, 1, none⟩ = some (.slice a1 n1 c1) := (rule_cells b9).2.1
    have d2 : w9.cell? ⟨w.heap.size, 2, none⟩ = some (.slice a2 n2 c2) := (rule_cells b9).2.2.1
    have d3 : w9.cell? ⟨w.heap.size, 3, none⟩ = some (.slice av nv cv) := (rule_cells b9).2.2.2.1
    have d4 : w9.cell? ⟨w.heap.size, 4, none⟩ = some (.slice none 0 0) := (rule_cells b9).2.2.2.2
    have f0 : ∀ j, w9.frozen? ⟨w.heap.size, j, none⟩ = false := fun j => free_of_blk b9 j
    clear b9 r9 e9 q0 q1 q2 q3 q4
    go_wp2_with fail
    obtain ⟨b9, r9, e9, q0, q1, q2, q3, q4⟩ := H9.out
    obtain ⟨b10, e10⟩ := store5 (v0 := .slice a0 n0 c0) (v1 := .slice a1 n1 c1) (v2 := .slice a2 n2 c2) (v3 := .slice av nv cv) (v4 := .slice none 0 0) b9
    generalize World.setCell _ _ _ = w10 at *
    obtain ⟨d0', d1', d2', d3', d4'⟩ := rule_cells b10
    have nb : ∀ b, w.heap.size + 1 ≤ b → ¬ b = w.heap.size := fun b hb z => by omega
    refine bodyPost_ret (v := .agg #[.slice a0 n0 c0, .slice a1 n1 c1, .slice a2 n2 c2, .slice av nv cv, .slice none 0 0]) ?_ rfl ⟨_, _, _, _, _, rfl, ⟨(OwnSets.ext q0 e10 (fun b _ _ _ hb _ _ z => nb b hb z)).mono (by omega), (OwnSets.ext q1 e10 (fun b _ _ _ hb _ _ z => nb b hb z)).mono (by omega), (OwnSets.ext q2 e10 (fun b _ _ _ hb _ _ z => nb b hb z)).mono (by omega), OwnI.mono (own_ext q3 e10 (fun g hg z => nb g (World.ownsRow.lt q3 g hg).1 z)) (by omega), OwnT.mono (own_ext q4 e10 (fun g hg z => nb g (World.ownsRow.lt q4 g hg).1 z)) (by omega)⟩, ?_, ?_⟩
    · simp [results, Tryz.results68, go_sem, d0', d1', d2', d3', d4']
    · exact r9.ext e10 (fun z => by have z : rb = w.heap.size := z; have := hrb.out; omega) (fun b hb z => by have z : b = w.heap.size := z; have := HB.out b hb.2; omega)
    · exact e9.trans e10 (fun b hb z => absurd z (by omega))
  · have hends : endsS r = w_call :: r.calls.map callS := by unfold endsS; rw [if_neg hcl]
    rw [hends] at H3
    clear hends
    have e2 : Ext Nope w3 (w3.alloc (.cells #[.string k_gt, .string w_call] 9)) := (Ext.refl _ _).alloc _
    have hz := heap_alloc_new w3 (.cells #[.string k_gt, .string w_call] 9)
    rw [HB2.out] at hz
    have hzz : Hid (w3.heap.size ≤ (w3.alloc (.cells #[.string k_gt, .string w_call] 9)).heap.size) := by show _ ≤ _; simp
    have hrw : w.heap.size < w3.heap.size := by first | exact HS2.out
    refine (sets_read (A := fun b => b = NB2) (ends := [k_gt, w_call]) (c := r.ahead) (stop := w_call) (HG.out _ (H3.out.2.2.1.trans e2 (fun _ _ z => z.elim))) (by have := hzz.out; omega) hb (H3.out.2.1.ext0 e2) (fun b z => by have := HB.out b z; have := hzz.out; omega) (HR.out.ahead) (by have := HR.out.few; omega) (Rd.strs (A := fun b => b = NB2) (l := [k_gt, w_call]) hz rfl (by decide) 2 (by decide) (by decide)) (fun b z1 z2 => by have z1 : b = NB2 := z1; have := hrb.out; have := HB2.out; omega) (by decide) (fun s _ => setS_not (by decide))).mono ?_
    rintro e w' ⟨v2, rfl, o2, r2, e3⟩
    have e4 : Ext (fun b => b = rb) w3 w' := (e2.mono (fun _ z => z.elim)).trans e3 (fun _ _ z => z)
    have b2 := (e4.block _ (lt_of_heap H3.out.1) (fun z => by have z : w.heap.size = rb := z; have := hrb.out; omega)).trans H3.out.1
    have o3 : OwnSets w' w3.heap.size v2 r.ahead := o2.mono hzz.out
    have o4 : OwnSets w' (w.heap.size + 1) v2 r.ahead := o3.mono hrw
    obtain ⟨a2, c2, hv, _⟩ := o4.shape
    obtain ⟨n2, HN2⟩ : ∃ n, Hid (r.ahead.length = n) := ⟨_, rfl⟩
    rw [HN2.out] at hv
    subst hv
    have d0 : w'.cell? ⟨w.heap.size, 2, none⟩ = some (.slice none 0 0) := by rw [show (⟨w.heap.size, 2, none⟩ : Addr) = at_ w.heap.size 2 from rfl, cell_of_blk b2]; rfl
    have f0 : w'.frozen? ⟨w.heap.size, 2, none⟩ = false := free_of_blk b2 2
    have e5 : Ext (fun b => b = w.heap.size) w' (w'.setCell ⟨w.heap.size, 2, none⟩ (.slice a2 n2 c2)) := Ext.setCell (S := fun b => b = w.heap.size) (Ext.refl _ _) _ 2 (fun _ => rfl) _
    have b3 : (w'.setCell ⟨w.heap.size, 2, none⟩ (.slice a2 n2 c2)).heap[w.heap.size]? = some (.cells #[.slice a0 n0 c0, .slice a1 n1 c1, .slice a2 n2 c2, .slice none 0 0, .slice none 0 0] 81 (0, 0)) := by rw [heap_setCell_eq _ _ _ _ _ _ _ b2]; rfl
    have r3 : RL (w'.setCell ⟨w.heap.size, 2, none⟩ (.slice a2 n2 c2)) rb B cs (r.calls.map callS) := r2.ext e5 (fun z => by have z : rb = w.heap.size := z; have := hrb.out; omega) (fun b hb z => by have z : b = w.heap.size := z; have := HB.out b hb.2; omega)
    have e6 : Ext (fun b => b = rb) w (w'.setCell ⟨w.heap.size, 2, none⟩ (.slice a2 n2 c2)) := Ext.setCell (S := fun b => b = rb) (H3.out.2.2.1.trans e4 (fun _ _ z => z)) _ 2 (fun z => absurd z (by omega)) _
    have q0 := OwnSets.ext (OwnSets.ext (H3.out.2.2.2.1) e4 (fun b _ _ _ hb _ _ z => by have z : b = rb := z; have := hrb.out; omega)) e5 (fun b _ _ _ hb _ _ z => by have z : b = w.heap.size := z; omega)
    have q1 := OwnSets.ext (OwnSets.ext (H3.out.2.2.2.2) e4 (fun b _ _ _ hb _ _ z => by have z : b = rb := z; have := hrb.out; omega)) e5 (fun b _ _ _ hb _ _ z => by have z : b = w.heap.size := z; omega)
    have q2 := OwnSets.ext o4 e5 (fun b _ _ _ hb _ _ z => by have z : b = w.heap.size := z; omega)
    have s6 : Hid (w.heap.size < (w'.setCell ⟨w.heap.size, 2, none⟩ (.slice a2 n2 c2)).heap.size) := by show _ < _; have := e4.size; have := e5.size; omega
    have H4 := toHid (show _ ∧ _ ∧ _ ∧ _ ∧ _ ∧ _ from ⟨b3, r3, e6, q0, q1, q2⟩)
    have HS3 := s6
    clear e2 hz hzz o2 r2 e3 e4 b2 o3 o4 e5 b3 r3 e6 s6 q0 q1 q2 H3 HS2 hrw
    obtain ⟨NB3, HX3⟩ : ∃ N, Hid (w'.heap.size = N) := ⟨_, rfl⟩
    have HB3 : Hid ((w'.setCell ⟨w.heap.size, 2, none⟩ (.slice a2 n2 c2)).heap.size = NB3) := by show _ = _; rw [← HX3.out]; simp
    go_upto_region 8 with fail
    clear d0 f0
    try rw [HX3.out]
    generalize w'.setCell ⟨w.heap.size, 2, none⟩ (.slice a2 n2 c2) = w4 at *
    obtain ⟨ak, ck, hck⟩ := H4.out.2.1.cell
    rw [List.length_map] at hck
    have hpos : 0 < r.calls.length := List.length_pos_iff.2 hcl
    obtain ⟨nk, HNK⟩ : ∃ n, Hid (r.calls.length = n) := ⟨_, rfl⟩
    rw [HNK.out] at hck hpos
    have hpos' : (0 : Int) < (nk : Int) := by omega
    go_wp2_with fail
    refine (need_yes _).mono ?_
    rintro e w' ⟨rfl, rfl⟩
    clear hck hpos hpos'
    go_wp2_with fail
    have r4 : RL w4 rb B cs (r.calls.flatMap fun x => callS x :: (fun _ => []) x) := by rw [flat1]; exact H4.out.2.1
    have hl := list_calls hentc (fun b z => Nat.lt_trans (HB.out b z) HS3.out) r4 (by have := HR.out.few; omega) (reads_calls (HG.out _ H4.out.2.2.1) (Nat.le_trans hg (Nat.le_of_lt HS3.out)) hb HR.out.calls)
    clear r4
    refine hl.mono ?_
    clear hl
    rintro e w' ⟨v, rfl, o2, r2, e4⟩
    have b2 := (e4.block _ (lt_of_heap H4.out.1) (fun z => by have z : w.heap.size = rb := z; have := hrb.out; omega)).trans H4.out.1
    obtain ⟨av, cv, hv, _⟩ := own_gen o2
    obtain ⟨nv, HNV⟩ : ∃ n, Hid (r.calls.length = n) := ⟨_, rfl⟩
    rw [HNV.out] at hv
    subst hv
    have d0 : w'.cell? ⟨w.heap.size, 4, none⟩ = some (.slice none 0 0) := by rw [show (⟨w.heap.size, 4, none⟩ : Addr) = at_ w.heap.size 4 from rfl, cell_of_blk b2]; rfl
    have f0 : w'.frozen? ⟨w.heap.size, 4, none⟩ = false := free_of_blk b2 4
    have e5 : Ext (fun b => b = w.heap.size) w' (w'.setCell ⟨w.heap.size, 4, none⟩ (.slice av nv cv)) := Ext.setCell (S := fun b => b = w.heap.size) (Ext.refl _ _) _ 4 (fun _ => rfl) _
    have b3 : (w'.setCell ⟨w.heap.size, 4, none⟩ (.slice av nv cv)).heap[w.heap.size]? = some (.cells #[.slice a0 n0 c0, .slice a1 n1 c1, .slice a2 n2 c2, .slice none 0 0, .slice av nv cv] 81 (0, 0)) := by rw [heap_setCell_eq _ _ _ _ _ _ _ b2]; rfl
    have r3 : RL (w'.setCell ⟨w.heap.size, 4, none⟩ (.slice av nv cv)) rb B cs [] := r2.ext e5 (fun z => by have z : rb = w.heap.size := z; have := hrb.out; omega) (fun b hb z => by have z : b = w.heap.size := z; have := HB.out b hb.2; omega)
    have e6 : Ext (fun b => b = rb) w (w'.setCell ⟨w.heap.size, 4, none⟩ (.slice av nv cv)) := Ext.setCell (S := fun b => b = rb) (H4.out.2.2.1.trans e4 (fun _ _ z => z)) _ 4 (fun z => absurd z (by omega)) _
    have q0 := OwnSets.ext (OwnSets.ext (H4.out.2.2.2.1) e4 (fun b _ _ _ hb _ _ z => by have z : b = rb := z; have := hrb.out; omega)) e5 (fun b _ _ _ hb _ _ z => by have z : b = w.heap.size := z; omega)
    have q1 := OwnSets.ext (OwnSets.ext (H4.out.2.2.2.2.1) e4 (fun b _ _ _ hb _ _ z => by have z : b = rb := z; have := hrb.out; omega)) e5 (fun b _ _ _ hb _ _ z => by have z : b = w.heap.size := z; omega)
    have q2 := OwnSets.ext (OwnSets.ext (H4.out.2.2.2.2.2) e4 (fun b _ _ _ hb _ _ z => by have z : b = rb := z; have := hrb.out; omega)) e5 (fun b _ _ _ hb _ _ z => by have z : b = w.heap.size := z; omega)
    have q3 : OwnI (w'.setCell ⟨w.heap.size, 4, none⟩ (.slice av nv cv)) (w.heap.size + 1) (.slice none 0 0) r.out := by rw [HR.out.one.resolve_left hcl]; exact OwnI.nil _ _
    have q4 : OwnT 184 (w'.setCell ⟨w.heap.size, 4, none⟩ (.slice av nv cv)) (w.heap.size + 1) (.slice av nv cv) r.calls := own_ext (OwnT.mono o2 HS3.out) e5 (fun g hg z => by have z : g = w.heap.size := z; have := (World.ownsRow.lt o2 g hg).1; have := HS3.out; omega)
    have H9 := toHid (show _ ∧ _ ∧ _ ∧ _ ∧ _ ∧ _ ∧ _ ∧ _ from ⟨b3, r3, e6, q0, q1, q2, q3, q4⟩)
    clear o2 r2 e4 b2 e5 b3 r3 e6 q0 q1 q2 q3 q4 H4
    go_upto_region 10 with fail
    clear d0 f0
    generalize w'.setCell ⟨w.heap.size, 4, none⟩ (.slice av nv cv) = w9 at *
    obtain ⟨b9, r9, e9, q0, q1, q2, q3, q4⟩ := H9.out
    have d0 : w9.cell? ⟨w.heap.size, 0, none⟩ = some (.slice a0 n0 c0) := (rule_cells b9).1
    have d1 : w9.cell? ⟨w.heap.size, 1, none⟩ = some (.slice a1 n1 c1) := (rule_cells b9).2.1
    have d2 : w9.cell? ⟨w.heap.size, 2, none⟩ = some (.slice a2 n2 c2) := (rule_cells b9).2.2.1
    have d3 : w9.cell? ⟨w.heap.size, 3, none⟩ = some (.slice none 0 0) := (rule_cells b9).2.2.2.1
    have d4 : w9.cell? ⟨w.heap.size, 4, none⟩ = some (.slice av nv cv) := (rule_cells b9).2.2.2.2
    have f0 : ∀ j, w9.frozen? ⟨w.heap.size, j, none⟩ = false := fun j => free_of_blk b9 j
    clear b9 r9 e9 q0 q1 q2 q3 q4
    go_wp2_with fail
    obtain ⟨b9, r9, e9, q0, q1, q2, q3, q4⟩ := H9.out
    obtain ⟨b10, e10⟩ := store5 (v0 := .slice a0 n0 c0) (v1 := .slice a1 n1 c1) (v2 := .slice a2 n2 c2) (v3 := .slice none 0 0) (v4 := .slice av nv cv) b9
    generalize World.setCell _ _ _ = w10 at *
    obtain ⟨d0', d1', d2', d3', d4'⟩ := rule_cells b10
    have nb : ∀ b, w.heap.size + 1 ≤ b → ¬ b = w.heap.size := fun b hb z => by omega
    refine bodyPost_ret (v := .agg #[.slice a0 n0 c0, .slice a1 n1 c1, .slice a2 n2 c2, .slice none 0 0, .slice av nv cv]) ?_ rfl ⟨_, _, _, _, _, rfl, ⟨(OwnSets.ext q0 e10 (fun b _ _ _ hb _ _ z => nb b hb z)).mono (by omega), (OwnSets.ext q1 e10 (fun b _ _ _ hb _ _ z => nb b hb z)).mono (by omega), (OwnSets.ext q2 e10 (fun b _ _ _ hb _ _ z => nb b hb z)).mono (by omega), OwnI.mono (own_ext q3 e10 (fun g hg z => nb g (World.ownsRow.lt q3 g hg).1 z)) (by omega), OwnT.mono (own_ext q4 e10 (fun g hg z => nb g (World.ownsRow.lt q4 g hg).1 z)) (by omega)⟩, ?_, ?_⟩
    · simp [results, Tryz.results68, go_sem, d0', d1', d2', d3', d4']
    · exact r9.ext e10 (fun z => by have z : rb = w.heap.size := z; have := hrb.out; omega) (fun b hb z => by have z : b = w.heap.size := z; have := HB.out b hb.2; omega)
    · exact e9.trans e10 (fun b hb z => absurd z (by omega))
end Go.Proofs.YtajebdpalnpjdaaGreatDoor
namespace Go.Proofs.YtajebdpalnpjdaaGreatDoor
open Go.RowKit
attribute [local go_sem] alloc_drewN setCell_drewN

theorem infoRule : (Tryz.prog.info? 81).map (fun i => (i.zero, i.size, i.bytes)) = some (some (.agg #[.slice none 0 0, .slice none 0 0, .slice none 0 0, .slice none 0 0, .slice none 0 0]), 5, 120) := by kernel_rfl
/-- A lookup's rules. -/
def OwnR (w : World) (base : Nat) (v : Value) (n : Nat) (us : List Value) : Prop := w.ownsRow base 81 5 v n us
theorem OwnRule.ext {S : Nat → Prop} {w w' : World} {base : Nat} {vb vi va vo vc : Value} {r : RuleA} (h : OwnRule w base vb vi va vo vc r) (e : Ext S w w') (hS : ∀ (b : Nat) (cs : Array Value) (T : Nat) (fz : Nat × Nat), base ≤ b → w.heap[b]? = some (.cells cs T fz) → T = 24 ∨ T = 3 ∨ T = 184 → ¬ S b) : OwnRule w' base vb vi va vo vc r := by
  have key : ∀ {E sz n : Nat} {v : Value} {xs : List Value}, w.ownsRow base E sz v n xs → (E = 24 ∨ E = 3 ∨ E = 184) → ∀ g, v.ownBlock = some g → ¬ S g := fun h hE g hg => by
    obtain ⟨_, ⟨rfl, _⟩ | ⟨g1, cap1, cur1, rfl, hb1, hh1, _⟩⟩ := h
    · cases hg
    · have e1 : g1 = g := by simpa [Value.ownBlock] using hg
      subst e1
      exact hS _ _ _ _ hb1 hh1 hE
  have hS' : ∀ (b : Nat) (cs : Array Value) (T : Nat) (fz : Nat × Nat), base ≤ b → w.heap[b]? = some (.cells cs T fz) → T = 24 ∨ T = 3 → ¬ S b := fun b cs T fz h1 h2 h3 => hS b cs T fz h1 h2 (h3.elim Or.inl (fun z => Or.inr (Or.inl z)))
  exact ⟨h.1.ext e hS', h.2.1.ext e hS', h.2.2.1.ext e hS', own_ext h.2.2.2.1 e (key h.2.2.2.1 (Or.inr (Or.inl rfl))), own_ext h.2.2.2.2 e (key h.2.2.2.2 (Or.inr (Or.inr rfl)))⟩
theorem OwnRule.ext0 {w w' : World} {base : Nat} {vb vi va vo vc : Value} {r : RuleA} (h : OwnRule w base vb vi va vo vc r) (e : Ext Nope w w') : OwnRule w' base vb vi va vo vc r := h.ext e (fun _ _ _ _ _ _ _ z => z)
theorem OwnRule.mono {w : World} {b b' : Nat} {vb vi va vo vc : Value} {r : RuleA} (h : OwnRule w b vb vi va vo vc r) (hb : b' ≤ b) : OwnRule w b' vb vi va vo vc r := ⟨h.1.mono hb, h.2.1.mono hb, h.2.2.1.mono hb, h.2.2.2.1.mono hb, h.2.2.2.2.mono hb⟩
theorem OwnRule.shapes {w : World} {base : Nat} {vb vi va vo vc : Value} {r : RuleA} (h : OwnRule w base vb vi va vo vc r) : ∃ ab nb cb ai ni ci aa na ca ao no co ac nc cc, vb = .slice ab nb cb ∧ vi = .slice ai ni ci ∧ va = .slice aa na ca ∧ vo = .slice ao no co ∧ vc = .slice ac nc cc := by
  obtain ⟨a1, c1, h1, _⟩ := h.1.shape
  obtain ⟨a2, c2, h2, _⟩ := h.2.1.shape
  obtain ⟨a3, c3, h3, _⟩ := h.2.2.1.shape
  obtain ⟨a4, c4, h4, _⟩ := own_gen h.2.2.2.1
  obtain ⟨a5, c5, h5, _⟩ := own_gen h.2.2.2.2
  exact ⟨_, _, _, _, _, _, _, _, _, _, _, _, _, _, _, h1, h2, h3, h4, h5⟩
/-- The block of a slice of one's own has its type. -/
theorem own_typed {w : World} {base E sz n : Nat} {v : Value} {xs : List Value} (h : w.ownsRow base E sz v n xs) {b : Nat} {cs : Array Value} {T : Nat} {fz : Nat × Nat} (hb : w.heap[b]? = some (.cells cs T fz)) (hT : T ≠ E) : ¬ v.ownBlock = some b := by
  intro hg
  obtain ⟨_, ⟨rfl, _⟩ | ⟨g1, cap1, cur1, rfl, hb1, hh1, _⟩⟩ := h
  · cases hg
  · have e1 : g1 = b := by simpa [Value.ownBlock] using hg
    rw [e1, hb] at hh1
    simp at hh1
    exact hT hh1.2.1
set_option maxRecDepth 100000 in
set_option maxHeartbeats 8000000 in
/-- reader.core of 'rule' -/
theorem core_rule {w : World} (G : Glob w) (hg : 11 ≤ w.heap.size) {rb base base2 : Nat} {B : Nat → Prop} {cs : List Value} (hb : 11 ≤ rb) (hrb : rb < base) (hbb : base ≤ base2) (hbw : base2 ≤ w.heap.size) {r : RuleA} (hr : RuleR r) (h : RL w rb B cs (ruleW r))
    {vL vr : Value} {ls us : List Value} {q : Nat} (hcs : cs[9]? = some vL) (hBg : ∀ b, B b → b < w.heap.size ∧ ¬ vL.ownBlock = some b ∧ ¬ vr.ownBlock = some b) (ho : OwnL w base vL (ls ++ [vr])) (hgl : ls.length ≤ 100000) (hk : OwnR w base2 vr q us) (hkl : q ≤ 100000) :
    Calls Tryz.prog 25 #[ptr rb, .string k_rule] w fun e w' => e = .returned (.tuple #[]) ∧ ∃ vr' vb vi va vo vc, RL w' rb B cs [] ∧ OwnL w' base vL (ls ++ [vr']) ∧ OwnR w' base2 vr' (q + 1) (us ++ [vb, vi, va, vo, vc]) ∧ OwnRule w' w.heap.size vb vi va vo vc r ∧ Ext (fun b => b = rb ∨ vL.ownBlock = some b ∨ vr.ownBlock = some b) w w' := by
  have HO := toHid ho
  have HKK := toHid hk
  have HC := toHid hcs
  obtain ⟨av, cv, hv, hcv, _, hgg⟩ := own_gen (show w.ownsRow base 66 1 vL (ls ++ [vr]).length _ from ho)
  rw [List.length_append, List.length_singleton] at hv hcv hgg
  obtain ⟨g, rfl⟩ := hgg (by omega)
  subst hv
  obtain ⟨ac, cc, hvc, hcc, _⟩ := own_gen (show w.ownsRow base2 81 5 vr q _ from hk)
  obtain ⟨k, HK⟩ : ∃ k, Hid (ls.length = k) := ⟨_, rfl⟩
  subst hvc
  have HRB : Hid (RL w rb B cs (ruleW r)) := h
  have hat : (ls ++ [Value.slice ac q cc])[ls.length]? = some (.slice ac q cc) := by rw [List.getElem?_append_right (Nat.le_refl _), Nat.sub_self]; rfl
  have HAT := toHid hat
  obtain ⟨i0, hi, hz0, hz1, hz2⟩ := info_parts infoRule
  have HI := toHid (show _ ∧ _ ∧ _ ∧ _ from ⟨hi, hz0, hz1, hz2⟩)
  have HG := toHid G
  have HRR := toHid hr
  clear G h ho hk hcs hi hz0 hz1 hz2 hr hat
  rw [HK.out] at hcv hgl
  have s1 : (0 : Int) ≤ (k : Int) := by omega
  have s2 : IntKind.i64.wrap (k : Int) = (k : Int) := IntWalk.i64_in _ (by omega)
  have s3 : (k : Int) < (k : Int) + 1 := by omega
  go_enter Tryz.func25, Tryz.ntmps25
  go_upto_region 13 with fail
  have e1 : Ext Nope w (w.alloc (.cells #[.func (.func 64) #[] #[]] 136)) := (Ext.refl _ _).alloc _
  have r1 := HRB.out.ext0 e1
  have L1 : OwnL _ base (.slice (some ⟨g, 0, none⟩) (ls.length + 1) cv) (ls ++ [.slice ac q cc]) := own_ext HO.out e1 (fun _ _ z => z)
  have R1 : OwnR _ base2 (.slice ac q cc) q us := own_ext HKK.out e1 (fun _ _ z => z)
  have c9 : (w.alloc (.cells #[.func (.func 64) #[] #[]] 136)).cell? ⟨rb, 9, none⟩ = some (.slice (some ⟨g, 0, none⟩) (ls.length + 1) cv) := (r1.at (by omega)).1.trans HC.out
  have ck : (w.alloc (.cells #[.func (.func 64) #[] #[]] 136)).cell? ⟨g, ls.length, none⟩ = some (.slice ac q cc) := own_cell (by unfold OwnL at L1; exact L1) HAT.out
  have hgb : base ≤ g ∧ g < w.heap.size := World.ownsRow.lt HO.out g (by simp [Value.ownBlock])
  have hap : ∀ b, (Value.slice ac q cc).ownBlock = some b → base2 ≤ b ∧ b < w.heap.size ∧ b ≠ g := fun b hb => ⟨(World.ownsRow.lt HKK.out b hb).1, (World.ownsRow.lt HKK.out b hb).2, fun z => own_apart HKK.out HO.out (by decide) b hb (by rw [z]; simp [Value.ownBlock])⟩
  have H1 := toHid (show _ ∧ _ ∧ _ ∧ _ ∧ _ from ⟨r1, HG.out.ext0 e1, e1, L1, R1⟩)
  clear e1 r1 L1 R1
  generalize w.alloc (.cells #[.func (.func 64) #[] #[]] 136) = w1 at *
  rw [HK.out] at c9 ck
  obtain ⟨X, HX⟩ : ∃ X, Hid (w.heap.size = X) := ⟨_, rfl⟩
  rw [HX.out]
  go_wp2_with fail
  go_still_tail 13, (by kernel_rfl)
  change wpList _ _ _ _ _ w1.drew
  go_wp2
  have ckd : w1.drew.cell? ⟨g, k, none⟩ = some (.slice ac q cc) := ck
  clear c9 ck
  refine wp_region_head 9 (fun w' => w'.cell? ⟨g, k, none⟩ = some (.slice ac q cc)) (by kernel_rfl) (by kernel_rfl) ckd (fun hO hHeld => ?_)
  refine wpAnyT_takeD (i := 0) (d := some 102) (v := ?_) hO rfl rfl (by kernel_rfl) (fun _ _ _ h => h) (Or.inl ⟨by rfl, ?_⟩) (by exact hHeld) ?_
  rotate_left
  · intro w' hSw
    go_simp
    try (with_reducible rfl)
  try simp only [Act.put, List.setIfInBounds_toArray, List.set_cons_zero, List.set_cons_succ]
  refine wpAnyT_takeD (i := 1) (d := some 103) (v := ?_) hO rfl rfl (by kernel_rfl) (fun _ _ _ h => h) (Or.inl ⟨by rfl, ?_⟩) (by exact hHeld) ?_
  rotate_left
  · intro w' hSw
    go_simp
    try (with_reducible rfl)
  try simp only [Act.put, List.setIfInBounds_toArray, List.set_cons_zero, List.set_cons_succ]
  refine wpAnyT_takeD (i := 2) (d := some 104) (v := ?_) hO rfl rfl (by kernel_rfl) (fun _ _ _ h => h) (Or.inl ⟨by rfl, ?_⟩) (by exact hHeld) ?_
  rotate_left
  · intro w' hSw
    go_simp
    try (with_reducible rfl)
  try simp only [Act.put, List.setIfInBounds_toArray, List.set_cons_zero, List.set_cons_succ]
  refine wpAnyT_takeD (i := 3) (d := some 105) (v := ?_) hO rfl rfl (by kernel_rfl) (fun _ _ _ h => h) (Or.inl ⟨by rfl, ?_⟩) (by exact hHeld) ?_
  rotate_left
  · intro w' hSw
    go_simp
    try (with_reducible rfl)
  try simp only [Act.put, List.setIfInBounds_toArray, List.set_cons_zero, List.set_cons_succ]
  refine wpAnyT_takeD (i := 4) (d := some 106) (v := ?_) hO rfl rfl (by kernel_rfl) (fun _ _ _ h => h) (Or.inl ⟨by rfl, ?_⟩) (by exact hHeld) ?_
  rotate_left
  · intro w' hSw
    go_simp
    try (with_reducible rfl)
  try simp only [Act.put, List.setIfInBounds_toArray, List.set_cons_zero, List.set_cons_succ]
  refine wpAnyT_takeD (i := 5) (d := some 107) (v := ?_) hO rfl rfl (by kernel_rfl) (fun _ _ _ h => h) (Or.inl ⟨by rfl, ?_⟩) (by exact hHeld) ?_
  rotate_left
  · intro w' hSw
    go_simp
    try (with_reducible rfl)
  try simp only [Act.put, List.setIfInBounds_toArray, List.set_cons_zero, List.set_cons_succ]
  clear hHeld
  refine wpAnyT_one (i := 6) rfl (by kernel_rfl) (by rfl) (fun K hK => ?_)
  go_simp
  have ed : Ext Nope w1 w1.drew.drew := (Ext.refl _ _).drew.drew
  refine (rule_read (H1.out.2.1.ext0 ed) (Nat.le_trans hg (Nat.le_trans H1.out.2.2.1.size ed.size)) hb (fun b z => Nat.lt_of_lt_of_le (hBg b z).1 (Nat.le_trans H1.out.2.2.1.size ed.size)) HRR.out (H1.out.1.ext0 ed)).mono ?_
  rintro e w2 ⟨vb, vi, va, vo, vc, rfl, p2, r2, e2⟩
  have e2' : Ext (fun b => b = rb) w1 w2 := ext1 ed e2
  have e2w : Ext (fun b => b = rb) w w2 := ext1 H1.out.2.2.1 e2'
  have p2' : OwnRule w2 w.heap.size vb vi va vo vc r := p2.mono (Nat.le_trans H1.out.2.2.1.size ed.size)
  have o2 : OwnL w2 base (.slice (some ⟨g, 0, none⟩) (ls.length + 1) cv) (ls ++ [.slice ac q cc]) := own_ext H1.out.2.2.2.1 e2' (fun g' hg' z => by have h1 := (World.ownsRow.lt H1.out.2.2.2.1 g' hg').1; have z : g' = rb := z; omega)
  have k2 : OwnR w2 base2 (.slice ac q cc) q us := own_ext H1.out.2.2.2.2 e2' (fun g' hg' z => by have h1 := (hap g' hg').1; have z : g' = rb := z; omega)
  have c2 : w2.cell? ⟨g, k, none⟩ = some (.slice ac q cc) := by rw [← HK.out]; exact own_cell (by unfold OwnL at o2; exact o2) HAT.out
  obtain ⟨ab, nb, cb, ai, ni, ci, aa, na, ca, ao, no, co, ak, nk, ck', h1, h2, h3, h4, h5⟩ := p2.shapes
  subst h1 h2 h3 h4 h5
  have H2 := toHid (show _ ∧ _ ∧ _ ∧ _ ∧ _ from ⟨r2, e2w, p2', o2, k2⟩)
  clear r2 e2 e2' e2w p2 p2' o2 k2 ed
  try go_simp
  refine hK.out _ _ c2 (fun _ => ?_)
  clear hK K
  try simp only [Act.put, List.setIfInBounds_toArray, List.set_cons_zero, List.set_cons_succ]
  refine wpAnyT_one (i := 7) rfl (by kernel_rfl) (by rfl) (fun K hK => ?_)
  go_simp
  have hg2 : g < w2.heap.size := Nat.lt_of_lt_of_le hgb.2 H2.out.2.1.size
  have c3 : (w2.alloc (.cells #[.slice ab nb cb, .slice ai ni ci, .slice aa na ca, .slice ao no co, .slice ak nk ck'] 81)).cell? ⟨g, k, none⟩ = some (.slice ac q cc) := by
    rw [World.cell?_of_block (w := w2) (heap_alloc_old w2 _ g hg2)]; exact c2
  refine hK.out _ _ c3 (fun _ => ?_)
  clear hK K
  try simp only [Act.put, List.setIfInBounds_toArray, List.set_cons_zero, List.set_cons_succ]
  refine wpAnyT_one (i := 8) rfl (by kernel_rfl) (by rfl) (fun K hK => ?_)
  obtain ⟨hi, hz0, hz1, hz2⟩ := HI.out
  have hown : w2.ownsRow base2 81 5 (.slice ac q cc) q us := H2.out.2.2.2.2
  refine wp_append_own _ (.tmp 106) (.tmp 109) 64 rfl base2 81 i0 _ 5 120 Tryz.underlying64 hi hz0 hz1 hz2 rfl (by decide) _ _ _ rfl (hown.alloc _) ⟨w2.heap.size, 0, none⟩ 1 1 [.slice ab nb cb, .slice ai ni ci, .slice aa na ca, .slice ao no co, .slice ak nk ck'] rfl rfl (blk_at (heap_alloc_new w2 _)) (by intro u hu; simp only [List.mem_cons, List.not_mem_nil, or_false] at hu; rcases hu with rfl | rfl | rfl | rfl | rfl <;> rfl) (by unfold maxLen; omega) (by omega) (by have := H2.out.2.1.size; simp; omega) ?_
  intro v' w3 hown3 hgrow0 _
  have hgrow : World.grownBy _ w3 (Value.slice ac q cc).ownBlock := hgrow0
  clear hgrow0
  obtain ⟨av', cv', hv', _⟩ := own_gen hown3
  subst hv'
  have e3 : Ext (fun b => (Value.slice ac q cc).ownBlock = some b) w2 w3 := Ext.grown ((Ext.refl _ _).alloc _) hgrow (fun g hg _ => hg)
  have r3 := H2.out.1.ext e3 (fun z => by have := (hap rb z).1; omega) (fun b hb z => (hBg b hb.2).2.2 z)
  have o3 : OwnL w3 base (.slice (some ⟨g, 0, none⟩) (ls.length + 1) cv) (ls ++ [.slice ac q cc]) := own_ext H2.out.2.2.2.1 e3 (fun b hb z => (hap b z).2.2 (by simpa [Value.ownBlock] using hb.symm))
  have p3 : OwnRule w3 w.heap.size (.slice ab nb cb) (.slice ai ni ci) (.slice aa na ca) (.slice ao no co) (.slice ak nk ck') r := H2.out.2.2.1.ext e3 (fun b _ _ _ hb _ _ z => by have := (hap b z).2.1; omega)
  have c4 : w3.cell? ⟨g, k, none⟩ = some (.slice ac q cc) := by rw [← HK.out]; exact own_cell (by unfold OwnL at o3; exact o3) HAT.out
  have f4 : w3.frozen? ⟨g, k, none⟩ = false := own_free (by unfold OwnL at o3; exact o3) _
  have H3 := toHid (show _ ∧ _ ∧ _ ∧ _ ∧ _ from ⟨r3, o3, p3, hown3, e3⟩)
  clear hown3 hgrow e3 r3 o3 p3 hown hi hz0 hz1 hz2 c2 c3
  refine hK.out _ _ c4 (fun _ => ?_)
  clear hK K
  try simp only [Act.put, List.setIfInBounds_toArray, List.set_cons_zero, List.set_cons_succ]
  refine wpAnyT_done (by kernel_rfl) ⟨by kernel_rfl, ?_⟩
  simp only [List.drop_succ_cons, List.drop_zero]
  go_wp2
  go_end0
  have e4 : Ext (fun b => b = g) w3 (w3.setCell ⟨g, k, none⟩ (.slice av' (q + 1) cv')) := Ext.setCell (S := fun b => b = g) (Ext.refl _ _) g k (fun _ => rfl) _
  obtain ⟨r3, o3, p3, hown3, e3⟩ := H3.out
  refine ⟨rfl, .slice av' (q + 1) cv', .slice ab nb cb, .slice ai ni ci, .slice aa na ca, .slice ao no co, .slice ak nk ck', r3.ext (S := fun b => b = g) e4 (fun z => by have z : rb = g := z; omega) (fun b hb z => (hBg b hb.2).2.1 (by have z : b = g := z; rw [z]; simp [Value.ownBlock])), ?_, ?_, ?_, ?_⟩
  · have o3' : w3.ownsRow base 66 1 (.slice (some ⟨g, 0, none⟩) (ls.length + 1) cv) (ls.length + 1) (ls ++ [.slice ac q cc]) := by
      have h := o3
      unfold OwnL at h
      rw [List.length_append, List.length_singleton] at h
      exact h
    have h := own_set o3' k (.slice av' (q + 1) cv')
    have hset : (ls ++ [Value.slice ac q cc]).set k (.slice av' (q + 1) cv') = ls ++ [.slice av' (q + 1) cv'] := by
      rw [← HK.out, List.set_append_right _ _ (Nat.le_refl _), Nat.sub_self]
      rfl
    rw [hset, HK.out] at h
    unfold OwnL
    rw [List.length_append, List.length_singleton, HK.out]
    exact h
  · refine own_ext (show OwnR w3 base2 _ _ _ from hown3) e4 (fun b hb z => ?_)
    have z : b = g := z
    subst z
    exact own_apart hown3 o3 (by decide) b hb (by simp [Value.ownBlock])
  · exact p3.ext e4 (fun b _ _ _ hb _ _ z => by have z : b = g := z; omega)
  · refine ((H2.out.2.1.mono (fun b z => Or.inl z)).trans (S := fun b => b = rb ∨ (Value.slice (some ⟨g, 0, none⟩) (ls.length + 1) cv).ownBlock = some b ∨ (Value.slice ac q cc).ownBlock = some b) (e3.mono (fun b z => Or.inr (Or.inr z))) (fun _ _ z => z)).trans (e4.mono (fun b z => Or.inr (Or.inl ?_))) (fun _ _ z => z)
    have z : b = g := z
    rw [z]
    simp [Value.ownBlock]
end Go.Proofs.YtajebdpalnpjdaaGreatDoor
