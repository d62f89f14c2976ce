/-
  font.proved of glyphs with the two programs.
  What is left of a line, part by part: numbers, calls, instructions.
-/
import Derived.Test.YtajebdpalnpjdaaGreatDoorM22
import Derived.Test.YtajebdpalnpjdaaGreatDoorM13
import Derived.Test.YtajebdpalnpjdaaGreatDoorM09
namespace Go.Proofs.YtajebdpalnpjdaaGreatDoor
open Go.RowKit
attribute [local go_sem] alloc_drewN setCell_drewN

set_option maxRecDepth 100000 in
set_option maxHeartbeats 4000000 in
/-- font.proved -/
theorem proved_prog {A : Nat → Prop} {w : World} {cs : List Value} {g : GlyphA} {ec : Int} (hp : Plain g) (hr : Rd A w cs (glyphD g)) (hb : sumL g.contours ≤ 39) (hcase : (g.program = progA ∧ ec = 0 ∧ 1 ≤ sumL g.contours) ∨ (g.program = progB ∧ ec = 25)) :
    Calls Tryz.prog 35 #[.agg cs.toArray, .int .i64 0] w fun e w' => e = .returned (.int .i64 ec) ∧ Ext Nope w w' := by
  have HPt := toHid (fun W (e : Ext Nope w W) => points_calls (w := W) hp (hr.ext0 e) (Nat.le_trans hb (by omega)))
  obtain ⟨v0, v1, v6, v7, rfl, h0, h1, h5, h6, h7⟩ := hr.glyph
  have o0 := store_one (P := Tryz.prog) (h0.one v0 (by simp))
  have o1 := store_one (P := Tryz.prog) (h1.one v1 (by simp))
  have o6 := store_one (P := Tryz.prog) (h6.one v6 (by simp))
  have hl2 : 1 ≤ g.program.length ∧ g.program.length ≤ 60 := by
    rcases hcase with ⟨h, _⟩ | ⟨h, _⟩ <;> (rw [h]; decide)
  obtain ⟨a7, cap7, hv7, hc7, _⟩ := h7.len
  rw [List.length_map] at hv7 hc7
  subst hv7
  obtain ⟨n, HN⟩ : ∃ n, Hid (1 + sumL g.contours = n) := ⟨_, rfl⟩
  have hn1 : 1 ≤ n := by have := HN.out; omega
  have hn2 : n ≤ 40 := by have := HN.out; omega
  have HProve := toHid (show ∀ (W : World) (gp : Nat) (a : Option Addr), Ext Nope w W → W.heap[gp]? = some (.cells (rep boxPat z4 n 0).toArray 164 (0, 0)) → Calls Tryz.prog 90 #[.slice a7 g.program.length cap7, .slice (some ⟨gp, 0, none⟩) n n, .agg #[.int .i64 4, .int .i64 32], .slice a 0 0] W (ProveIs W ec) from fun W gp a e hg => by
    have h7W := (h7.ext0 e).mono (B := fun _ => True) (fun _ _ _ => trivial)
    rcases hcase with ⟨hpa, rfl, hs⟩ | ⟨hpb, rfl⟩
    · refine prove_calls hg (.inl (by have := HN.out; omega)) hn2 hl2.2 h7W (fun W' e' => ?_) (.inr ⟨rfl, hpa⟩)
      have h := h7W.ext0 e'
      rw [hpa] at h ⊢
      exact scheck_A h (by have := HN.out; omega) hn2
    · refine prove_calls hg (.inr (by decide)) hn2 hl2.2 h7W (fun W' e' => ?_) (.inl (by decide))
      have h := h7W.ext0 e'
      rw [hpb] at h ⊢
      exact scheck_B h hn2)
  have hNi : (1 : Int) + (sumL g.contours : Int) = (n : Int) := by have := HN.out; omega
  rw [hNi] at HPt
  clear hNi
  obtain ⟨np, HNP⟩ : ∃ np, Hid (g.program.length = np) := ⟨_, rfl⟩
  rw [HNP.out] at HPt HProve hl2
  have l1 : ¬ ((np : Int) = 0) := by omega
  clear hr h0 h1 h6 h7 hcase hc7 hl2
  generalize g.hang.cls = x2 at *
  generalize g.hang.x = x3 at *
  generalize g.hang.y = x4 at *
  generalize g.advance = x5 at *
  rw [HNP.out]
  have e1 : Ext Nope w (w.alloc (.cells #[v0, v1, .int .i64 x2, .int .i64 x3, .int .i64 x4, .int .i64 x5, v6, .slice a7 np cap7] 47)) := (Ext.refl _ _).alloc _
  have hz1 := heap_alloc_new w (.cells #[v0, v1, .int .i64 x2, .int .i64 x3, .int .i64 x4, .int .i64 x5, v6, .slice a7 np cap7] 47)
  have H1 := toHid (show _ ∧ _ from ⟨e1, hz1⟩)
  clear e1 hz1
  go_enter Tryz.func35, Tryz.ntmps35
  go_wp2_with fail
  have eb : Ext Nope w ((w.alloc (.cells #[v0, v1, .int .i64 x2, .int .i64 x3, .int .i64 x4, .int .i64 x5, v6, .slice a7 np cap7] 47)).alloc (.cells #[.int .i64 (-20480), .int .i64 (-20480), .int .i64 20480, .int .i64 20480] 164)) := H1.out.1.alloc _
  have hx : ((w.alloc (.cells #[v0, v1, .int .i64 x2, .int .i64 x3, .int .i64 x4, .int .i64 x5, v6, .slice a7 np cap7] 47)).alloc (.cells #[.int .i64 (-20480), .int .i64 (-20480), .int .i64 20480, .int .i64 20480] 164)).heap[w.heap.size + 1]? = some (.cells #[.int .i64 (-20480), .int .i64 (-20480), .int .i64 20480, .int .i64 20480] 164 (0, 0)) := heap_alloc_at _ _ _ (by simp)
  have hb : ((w.alloc (.cells #[v0, v1, .int .i64 x2, .int .i64 x3, .int .i64 x4, .int .i64 x5, v6, .slice a7 np cap7] 47)).alloc (.cells #[.int .i64 (-20480), .int .i64 (-20480), .int .i64 20480, .int .i64 20480] 164)).heap[w.heap.size]? = some (.cells #[v0, v1, .int .i64 x2, .int .i64 x3, .int .i64 x4, .int .i64 x5, v6, .slice a7 np cap7] 47 (0, 0)) := (heap_alloc_old _ _ _ (by simp)).trans H1.out.2
  refine (HPt.out _ eb).mono ?_
  rintro e w2 ⟨rfl, e2⟩
  have H2 := toHid (show _ ∧ _ ∧ _ from ⟨ext0 eb e2, (e2.block _ (lt_of_heap hb) (fun z => z)).trans hb, (e2.block _ (lt_of_heap hx) (fun z => z)).trans hx⟩)
  clear eb hx hb e2 HPt
  go_wp2_with fail
  refine (repeat_boxes H2.out.2.2 hn1 hn2).mono ?_
  rintro e w3 ⟨gp, rfl, hg3, _, e3⟩
  have H3 := toHid (show _ ∧ _ ∧ _ from ⟨ext0 H2.out.1 e3, (e3.block _ (lt_of_heap H2.out.2.1) (fun z => z)).trans H2.out.2.1, hg3⟩)
  clear e3 hg3
  go_wp2_with fail
  have e3 : Ext Nope w3 (w3.alloc (.cells #[.int .i64 (-64), .int .i64 64] 22)) := (Ext.refl _ _).alloc _
  refine (repeat_none (xb := w3.heap.size) (by simp)).mono ?_
  rintro e w4 ⟨g2, rfl, e4⟩
  have E4 := ext0 e3 e4
  have h4b := (E4.block _ (lt_of_heap H3.out.2.1) (fun z => z)).trans H3.out.2.1
  have H4 := toHid (show _ ∧ _ from ⟨ext0 H3.out.1 E4, (E4.block _ (lt_of_heap H3.out.2.2) (fun z => z)).trans H3.out.2.2⟩)
  have c7 : w4.cell? ⟨w.heap.size, 7, none⟩ = some (.slice a7 np cap7) := by rw [show (⟨w.heap.size, 7, none⟩ : Addr) = at_ w.heap.size 7 from rfl, cell_of_blk h4b]; rfl
  clear e3 e4 E4 h4b
  go_wp2_with fail
  refine (HProve.out _ gp _ H4.out.1 H4.out.2).mono ?_
  rintro e w5 ⟨⟨p1, p2, rfl⟩, e5⟩
  have H5 := toHid (ext0 H4.out.1 e5)
  clear e5 HProve
  go_wp2_with fail
  go_ret
  exact ⟨rfl, H5.out.alloc _⟩
end Go.Proofs.YtajebdpalnpjdaaGreatDoor
namespace Go.Proofs.YtajebdpalnpjdaaGreatDoor
open Go.RowKit
attribute [local go_sem] alloc_drewN setCell_drewN

theorem infoCall : (Tryz.prog.info? 184).map (fun i => (i.zero, i.size, i.bytes)) = some (some (.agg #[.int .i64 0, .int .i64 0]), 2, 16) := by kernel_rfl
theorem infoIns : (Tryz.prog.info? 194).map (fun i => (i.zero, i.size, i.bytes)) = some (some (.agg #[.int .i64 0, .int .i64 0]), 2, 16) := by kernel_rfl
def twoRow (p : Int × Int) : List Value := [.int .i64 p.1, .int .i64 p.2]
def twoCells (l : List (Int × Int)) : List Value := l.flatMap twoRow
theorem twoCells_append (a b : List (Int × Int)) : twoCells (a ++ b) = twoCells a ++ twoCells b := by simp [twoCells]
theorem twoCells_one (c : List (Int × Int)) : ∀ u ∈ twoCells c, u.oneCell' = true := fun u hu => by
  obtain ⟨p, _, h⟩ := List.mem_flatMap.1 hu
  simp [twoRow] at h
  rcases h with rfl | rfl <;> rfl
/-- A slice of pairs of one's own. -/
def OwnT (T : TypeId) (w : World) (base : Nat) (v : Value) (c : List (Int × Int)) : Prop := w.ownsRow base T 2 v c.length (twoCells c)
theorem OwnT.ext0 {T : TypeId} {w w' : World} {base : Nat} {v : Value} {c : List (Int × Int)} (h : OwnT T w base v c) (e : Ext Nope w w') : OwnT T w' base v c := own_ext h e (fun _ _ z => z)
theorem OwnT.mono {T : TypeId} {w : World} {b b' : Nat} {v : Value} {c : List (Int × Int)} (h : OwnT T w b v c) (hb : b' ≤ b) : OwnT T w b' v c := own_base h (fun g hg => Nat.le_trans hb (World.ownsRow.lt h g hg).1)
theorem OwnT.nil (T : TypeId) (w : World) (base : Nat) : OwnT T w base (.slice none 0 0) [] := ⟨rfl, .inl ⟨rfl, rfl⟩⟩
theorem twoCells_drop (c : List (Int × Int)) (k : Nat) : (twoCells c).drop (k * 2) = twoCells (c.drop k) := by
  induction k generalizing c with
  | zero => simp
  | succ k ih =>
    cases c with
    | nil => simp [twoCells]
    | cons p c =>
      rw [List.drop_succ_cons, ← ih c, show (k + 1) * 2 = k * 2 + 2 by omega]
      show (.int .i64 p.1 :: .int .i64 p.2 :: twoCells c).drop (k * 2 + 2) = _
      rfl
theorem OwnT.rd {T : TypeId} {A : Nat → Prop} {w : World} {base : Nat} {v : Value} {c : List (Int × Int)} (h : OwnT T w base v c) (hA : ∀ b, base ≤ b → A b) (hi : ∀ p ∈ c, i64 p.1 ∧ i64 p.2) : Rd A w [v] (.l 2 (c.map pairD)) := by
  refine Rd.own (xs := c.map pairD) (by unfold OwnT at h; simpa using h) (fun g hg => hA g (World.ownsRow.lt h g hg).1) fun k x hk => ?_
  rw [List.getElem?_map] at hk
  obtain ⟨p, hp, rfl⟩ := Option.map_eq_some_iff.1 hk
  obtain ⟨h1, h2⟩ := hi p (List.mem_of_getElem? hp)
  rw [twoCells_drop, List.drop_eq_getElem_cons (List.getElem?_eq_some_iff.1 hp).1, (List.getElem?_eq_some_iff.1 hp).2]
  show Rd A w [.int .i64 p.1, .int .i64 p.2] _
  exact Rd.mk1 (.int _ h1) (Rd.mk1 (.int _ h2) .nil)
theorem OwnT.snoc {T : TypeId} {w : World} {base : Nat} {v : Value} {c : List (Int × Int)} {k : Nat} {p : Int × Int} (h : w.ownsRow base T 2 v (k + 1) (twoCells (c.take k) ++ twoCells [p])) (hn : c[k]? = some p) : OwnT T w base v (c.take (k + 1)) := by
  have hk := (List.getElem?_eq_some_iff.1 hn).1
  have e : c.take (k + 1) = c.take k ++ [p] := by rw [List.take_succ_eq_append_getElem hk, (List.getElem?_eq_some_iff.1 hn).2]
  unfold OwnT
  rw [e, show (c.take k ++ [p]).length = k + 1 by simp; omega, twoCells_append]
  exact h
/-- What a function makes of a part, and of what stands behind it. -/
def Reads {X : Type} (f : FuncId) (caps : Array Value) (rb : Nat) (B : Nat → Prop) (cs : List Value) (w : World) (c : List X) (fst : X → ByteArray) (rest : X → List ByteArray) (val : X → Value) : Prop :=
  ∀ (W : World) (x : X) (more : List ByteArray), x ∈ c → Ext (fun b => b = rb) w W → RL W rb B cs (rest x ++ more) → Calls Tryz.prog f (#[.string (fst x)] ++ caps) W fun e w' => e = .returned (val x) ∧ RL w' rb B cs more ∧ Ext (fun b => b = rb) W w'
set_option maxHeartbeats 2000000 in
/-- source.list at int -/
theorem list_ints {w : World} {rb : Nat} {B : Nat → Prop} {cs : List Value} {f : FuncId} {caps : Array Value} (hent : Enters f) (hB : ∀ b, B b → b < w.heap.size) {c : List Int} {fst : Int → ByteArray} {rest : Int → List ByteArray} (h : RL w rb B cs (c.flatMap fun x => fst x :: rest x)) (hl : c.length ≤ 100000) (hr : Reads f caps rb B cs w c fst rest (fun x => .int .i64 x)) :
    Calls Tryz.prog 137 #[ptr rb, .func (.func f) #[] caps] w fun e w' => ∃ v, e = .returned v ∧ OwnI w' w.heap.size v c ∧ RL w' rb B cs [] ∧ Ext (fun b => b = rb) w w' := by
  have HL := toHid h
  have HB := toHid hB
  have HRD := toHid hr
  clear hB hr
  obtain ⟨m, HM⟩ : ∃ m, Hid (c.length = m) := ⟨_, rfl⟩
  rw [HM.out] at hl
  have hrb : Hid (rb < w.heap.size) := by obtain ⟨v, h1, _⟩ := h; exact h1.lt
  clear h
  obtain ⟨i0, hi, hz0, hz1, hz2⟩ := info_parts info3
  have HI := toHid (show _ ∧ _ ∧ _ ∧ _ from ⟨hi, hz0, hz1, hz2⟩)
  clear hi hz0 hz1 hz2
  go_enter Tryz.func137, Tryz.ntmps137
  go_wp2_with fail
  go_loopw [5] (fun o wr => ∃ k : Nat, k ≤ m ∧ OwnI wr w.heap.size o (c.take k) ∧ RL wr rb B cs ((c.drop k).flatMap fun x => fst x :: rest x) ∧ Ext (fun b => b = rb) w wr) (fun o _ => m - slLen o)
  case atStart => exact ⟨0, Nat.zero_le _, OwnI.nil _ _, HL.out, Ext.refl _ _⟩
  case round =>
    obtain ⟨k, hk, hO, hR, hE⟩ := hrel
    rename World => wr
    have HK := toHid (show _ ∧ _ ∧ _ from ⟨hO, hR, hE⟩)
    obtain ⟨av, cv, hv, _⟩ := own_gen (show wr.ownsRow w.heap.size 3 1 u5 (c.take k).length _ from hO)
    rw [List.length_take, HM.out, Nat.min_eq_left hk] at hv
    subst hv
    clear hO hE
    by_cases hkm : k < m
    · obtain ⟨x, hx⟩ := nth_some hkm HM.out
      have e : c.drop k = x :: c.drop (k + 1) := by rw [List.drop_eq_getElem_cons (List.getElem?_eq_some_iff.1 hx).1, (List.getElem?_eq_some_iff.1 hx).2]
      rw [e, List.flatMap_cons, List.cons_append] at hR
      obtain ⟨a0, cap0, hc0⟩ := hR.cell
      rw [List.length_cons] at hc0
      have HN := toHid (next_some hR)
      have HP := toHid (show _ ∧ _ from ⟨List.mem_of_getElem? hx, hx⟩)
      generalize (rest x ++ (c.drop (k + 1)).flatMap fun x => fst x :: rest x).length = nw at hc0
      have s1 : (0 : Int) < ((nw + 1 : Nat) : Int) := by omega
      have s1' : (0 : Int) < ((nw : Int) + 1) := by omega
      clear hR e hx
      go_wp2_with fail
      refine HN.out.mono ?_
      rintro e w2 ⟨rfl, _, r2, e2⟩
      have H2 := toHid (show _ ∧ _ from ⟨r2, HK.out.2.2.trans e2 (fun _ _ z => z)⟩)
      have HO2 : Hid (OwnI w2 w.heap.size (.slice av k cv) (c.take k)) := own_ext HK.out.1 e2 (fun g hg z => by have h1 := (World.ownsRow.lt HK.out.1 g hg).1; have h2 := hrb.out; have z : g = rb := z; omega)
      clear r2 e2 HN hc0
      go_wp2_with fail
      refine (HRD.out w2 x _ HP.out.1 H2.out.2 H2.out.1).mono ?_
      rintro e w3 ⟨rfl, r3, e3⟩
      have HO3 : Hid (OwnI w3 w.heap.size (.slice av k cv) (c.take k)) := own_ext HO2.out e3 (fun g hg z => by have h1 := (World.ownsRow.lt HO2.out g hg).1; have h2 := hrb.out; have z : g = rb := z; omega)
      have H3 := toHid (show _ ∧ _ from ⟨r3, H2.out.2.trans e3 (fun _ _ z => z)⟩)
      have hown : w3.ownsRow w.heap.size 3 1 (.slice av k cv) k (intCells (c.take k)) := by
        have h := HO3.out
        unfold OwnI at h
        rw [List.length_take, HM.out, Nat.min_eq_left hk] at h
        exact h
      clear r3 e3 HO2
      obtain ⟨hi, hz0, hz1, hz2⟩ := HI.out
      go_wp2_with (first | (at_builtin; refine wpList_append_own _ rfl (.tmp 12) (.tmp 17) 24 rfl w.heap.size 3 i0 _ 1 8 Tryz.underlying24 hi hz0 hz1 hz2 rfl (by decide) _ _ _ rfl (hown.alloc _) ⟨w3.heap.size, 0, none⟩ 1 1 (intCells [x]) rfl rfl (ints_at (heap_alloc_new w3 _)) (int_one _) (by unfold maxLen; omega) (by omega) (by have h1 := H3.out.2.size; simp; omega) ?_))
      intro v' w' hown' hgrow _
      have hl' : slLen v' = k + 1 := by
        obtain ⟨_, _, hv', _⟩ := own_gen hown'
        rw [hv']; rfl
      have HW := toHid (show _ ∧ _ ∧ _ ∧ _ from ⟨OwnI.snoc hown' HP.out.2, Ext.grown (H3.out.2.alloc _) hgrow (fun g hg hlt => absurd hlt (by have := (World.ownsRow.lt hown g hg).1; omega)),
        (H3.out.1.ext0 ((Ext.refl Nope w3).alloc _)).ext (Ext.grown (S := fun b => (Value.slice av k cv).ownBlock = some b) (Ext.refl _ _) hgrow (fun g hg _ => hg)) (fun z => by have h1 := (World.ownsRow.lt hown rb z).1; have h2 := hrb.out; omega) (fun b hb z => by have h1 := (World.ownsRow.lt hown b z).1; have h2 := HB.out b hb.2; omega), hl'⟩)
      clear hown' hgrow hown hi hz0 hz1 hz2 hl'
      go_wp2
      go_roundw
      case rel => exact ⟨k + 1, by omega, HW.out.1, HW.out.2.2.1, HW.out.2.1⟩
      case measure => rw [HW.out.2.2.2]; simp only [slLen]; omega
    · have hkk : k = m := by omega
      subst hkk
      have hz : c.drop k = [] := List.drop_eq_nil_of_le (by rw [HM.out]; exact Nat.le_refl _)
      rw [hz, List.flatMap_nil] at hR
      obtain ⟨a0, cap0, hc0⟩ := hR.cell
      have hc0 : wr.cell? ⟨rb, 12, none⟩ = some (.slice a0 0 cap0) := hc0
      have HZ := toHid hR
      clear hz hR
      go_wp2
      go_ret
      refine ⟨_, rfl, ?_, HZ.out, HK.out.2.2⟩
      have h := HK.out.1
      rwa [List.take_of_length_le (by rw [HM.out]; exact Nat.le_refl _)] at h
set_option maxHeartbeats 2000000 in
/-- source.list at abugida/api.Call -/
theorem list_calls {w : World} {rb : Nat} {B : Nat → Prop} {cs : List Value} {f : FuncId} {caps : Array Value} (hent : Enters f) (hB : ∀ b, B b → b < w.heap.size) {c : List (Int × Int)} {fst : (Int × Int) → ByteArray} {rest : (Int × Int) → List ByteArray} (h : RL w rb B cs (c.flatMap fun x => fst x :: rest x)) (hl : c.length ≤ 100000) (hr : Reads f caps rb B cs w c fst rest (fun x => .agg #[.int .i64 x.1, .int .i64 x.2])) :
    Calls Tryz.prog 138 #[ptr rb, .func (.func f) #[] caps] w fun e w' => ∃ v, e = .returned v ∧ OwnT 184 w' w.heap.size v c ∧ RL w' rb B cs [] ∧ Ext (fun b => b = rb) w w' := by
  have HL := toHid h
  have HB := toHid hB
  have HRD := toHid hr
  clear hB hr
  obtain ⟨m, HM⟩ : ∃ m, Hid (c.length = m) := ⟨_, rfl⟩
  rw [HM.out] at hl
  have hrb : Hid (rb < w.heap.size) := by obtain ⟨v, h1, _⟩ := h; exact h1.lt
  clear h
  obtain ⟨i0, hi, hz0, hz1, hz2⟩ := info_parts infoCall
  have HI := toHid (show _ ∧ _ ∧ _ ∧ _ from ⟨hi, hz0, hz1, hz2⟩)
  clear hi hz0 hz1 hz2
  go_enter Tryz.func138, Tryz.ntmps138
  go_wp2_with fail
  go_loopw [5] (fun o wr => ∃ k : Nat, k ≤ m ∧ OwnT 184 wr w.heap.size o (c.take k) ∧ RL wr rb B cs ((c.drop k).flatMap fun x => fst x :: rest x) ∧ Ext (fun b => b = rb) w wr) (fun o _ => m - slLen o)
  case atStart => exact ⟨0, Nat.zero_le _, OwnT.nil _ _ _, HL.out, Ext.refl _ _⟩
  case round =>
    obtain ⟨k, hk, hO, hR, hE⟩ := hrel
    rename World => wr
    have HK := toHid (show _ ∧ _ ∧ _ from ⟨hO, hR, hE⟩)
    obtain ⟨av, cv, hv, _⟩ := own_gen (show wr.ownsRow w.heap.size 184 2 u5 (c.take k).length _ from hO)
    rw [List.length_take, HM.out, Nat.min_eq_left hk] at hv
    subst hv
    clear hO hE
    by_cases hkm : k < m
    · obtain ⟨x, hx⟩ := nth_some hkm HM.out
      have e : c.drop k = x :: c.drop (k + 1) := by rw [List.drop_eq_getElem_cons (List.getElem?_eq_some_iff.1 hx).1, (List.getElem?_eq_some_iff.1 hx).2]
      rw [e, List.flatMap_cons, List.cons_append] at hR
      obtain ⟨a0, cap0, hc0⟩ := hR.cell
      rw [List.length_cons] at hc0
      have HN := toHid (next_some hR)
      have HP := toHid (show _ ∧ _ from ⟨List.mem_of_getElem? hx, hx⟩)
      generalize (rest x ++ (c.drop (k + 1)).flatMap fun x => fst x :: rest x).length = nw at hc0
      have s1 : (0 : Int) < ((nw + 1 : Nat) : Int) := by omega
      have s1' : (0 : Int) < ((nw : Int) + 1) := by omega
      clear hR e hx
      go_wp2_with fail
      refine HN.out.mono ?_
      rintro e w2 ⟨rfl, _, r2, e2⟩
      have H2 := toHid (show _ ∧ _ from ⟨r2, HK.out.2.2.trans e2 (fun _ _ z => z)⟩)
      have HO2 : Hid (OwnT 184 w2 w.heap.size (.slice av k cv) (c.take k)) := own_ext HK.out.1 e2 (fun g hg z => by have h1 := (World.ownsRow.lt HK.out.1 g hg).1; have h2 := hrb.out; have z : g = rb := z; omega)
      clear r2 e2 HN hc0
      go_wp2_with fail
      refine (HRD.out w2 x _ HP.out.1 H2.out.2 H2.out.1).mono ?_
      rintro e w3 ⟨rfl, r3, e3⟩
      have HO3 : Hid (OwnT 184 w3 w.heap.size (.slice av k cv) (c.take k)) := own_ext HO2.out e3 (fun g hg z => by have h1 := (World.ownsRow.lt HO2.out g hg).1; have h2 := hrb.out; have z : g = rb := z; omega)
      have H3 := toHid (show _ ∧ _ from ⟨r3, H2.out.2.trans e3 (fun _ _ z => z)⟩)
      have hown : w3.ownsRow w.heap.size 184 2 (.slice av k cv) k (twoCells (c.take k)) := by
        have h := HO3.out
        unfold OwnT at h
        rw [List.length_take, HM.out, Nat.min_eq_left hk] at h
        exact h
      clear r3 e3 HO2
      obtain ⟨hi, hz0, hz1, hz2⟩ := HI.out
      go_wp2_with (first | (at_builtin; refine wpList_append_own _ rfl (.tmp 12) (.tmp 17) 79 rfl w.heap.size 184 i0 _ 2 16 Tryz.underlying79 hi hz0 hz1 hz2 rfl (by decide) _ _ _ rfl (hown.alloc _) ⟨w3.heap.size, 0, none⟩ 1 1 (twoCells [x]) rfl rfl (blk_at (heap_alloc_new w3 _)) (twoCells_one _) (by unfold maxLen; omega) (by omega) (by have h1 := H3.out.2.size; simp; omega) ?_))
      intro v' w' hown' hgrow _
      have hl' : slLen v' = k + 1 := by
        obtain ⟨_, _, hv', _⟩ := own_gen hown'
        rw [hv']; rfl
      have HW := toHid (show _ ∧ _ ∧ _ ∧ _ from ⟨OwnT.snoc hown' HP.out.2, Ext.grown (H3.out.2.alloc _) hgrow (fun g hg hlt => absurd hlt (by have := (World.ownsRow.lt hown g hg).1; omega)),
        (H3.out.1.ext0 ((Ext.refl Nope w3).alloc _)).ext (Ext.grown (S := fun b => (Value.slice av k cv).ownBlock = some b) (Ext.refl _ _) hgrow (fun g hg _ => hg)) (fun z => by have h1 := (World.ownsRow.lt hown rb z).1; have h2 := hrb.out; omega) (fun b hb z => by have h1 := (World.ownsRow.lt hown b z).1; have h2 := HB.out b hb.2; omega), hl'⟩)
      clear hown' hgrow hown hi hz0 hz1 hz2 hl'
      go_wp2
      go_roundw
      case rel => exact ⟨k + 1, by omega, HW.out.1, HW.out.2.2.1, HW.out.2.1⟩
      case measure => rw [HW.out.2.2.2]; simp only [slLen]; omega
    · have hkk : k = m := by omega
      subst hkk
      have hz : c.drop k = [] := List.drop_eq_nil_of_le (by rw [HM.out]; exact Nat.le_refl _)
      rw [hz, List.flatMap_nil] at hR
      obtain ⟨a0, cap0, hc0⟩ := hR.cell
      have hc0 : wr.cell? ⟨rb, 12, none⟩ = some (.slice a0 0 cap0) := hc0
      have HZ := toHid hR
      clear hz hR
      go_wp2
      go_ret
      refine ⟨_, rfl, ?_, HZ.out, HK.out.2.2⟩
      have h := HK.out.1
      rwa [List.take_of_length_le (by rw [HM.out]; exact Nat.le_refl _)] at h
set_option maxHeartbeats 2000000 in
/-- source.list at abugida/api.Ins -/
theorem list_ins {w : World} {rb : Nat} {B : Nat → Prop} {cs : List Value} {f : FuncId} {caps : Array Value} (hent : Enters f) (hB : ∀ b, B b → b < w.heap.size) {c : List (Int × Int)} {fst : (Int × Int) → ByteArray} {rest : (Int × Int) → List ByteArray} (h : RL w rb B cs (c.flatMap fun x => fst x :: rest x)) (hl : c.length ≤ 100000) (hr : Reads f caps rb B cs w c fst rest (fun x => .agg #[.int .i64 x.1, .int .i64 x.2])) :
    Calls Tryz.prog 133 #[ptr rb, .func (.func f) #[] caps] w fun e w' => ∃ v, e = .returned v ∧ OwnT 194 w' w.heap.size v c ∧ RL w' rb B cs [] ∧ Ext (fun b => b = rb) w w' := by
  have HL := toHid h
  have HB := toHid hB
  have HRD := toHid hr
  clear hB hr
  obtain ⟨m, HM⟩ : ∃ m, Hid (c.length = m) := ⟨_, rfl⟩
  rw [HM.out] at hl
  have hrb : Hid (rb < w.heap.size) := by obtain ⟨v, h1, _⟩ := h; exact h1.lt
  clear h
  obtain ⟨i0, hi, hz0, hz1, hz2⟩ := info_parts infoIns
  have HI := toHid (show _ ∧ _ ∧ _ ∧ _ from ⟨hi, hz0, hz1, hz2⟩)
  clear hi hz0 hz1 hz2
  go_enter Tryz.func133, Tryz.ntmps133
  go_wp2_with fail
  go_loopw [5] (fun o wr => ∃ k : Nat, k ≤ m ∧ OwnT 194 wr w.heap.size o (c.take k) ∧ RL wr rb B cs ((c.drop k).flatMap fun x => fst x :: rest x) ∧ Ext (fun b => b = rb) w wr) (fun o _ => m - slLen o)
  case atStart => exact ⟨0, Nat.zero_le _, OwnT.nil _ _ _, HL.out, Ext.refl _ _⟩
  case round =>
    obtain ⟨k, hk, hO, hR, hE⟩ := hrel
    rename World => wr
    have HK := toHid (show _ ∧ _ ∧ _ from ⟨hO, hR, hE⟩)
    obtain ⟨av, cv, hv, _⟩ := own_gen (show wr.ownsRow w.heap.size 194 2 u5 (c.take k).length _ from hO)
    rw [List.length_take, HM.out, Nat.min_eq_left hk] at hv
    subst hv
    clear hO hE
    by_cases hkm : k < m
    · obtain ⟨x, hx⟩ := nth_some hkm HM.out
      have e : c.drop k = x :: c.drop (k + 1) := by rw [List.drop_eq_getElem_cons (List.getElem?_eq_some_iff.1 hx).1, (List.getElem?_eq_some_iff.1 hx).2]
      rw [e, List.flatMap_cons, List.cons_append] at hR
      obtain ⟨a0, cap0, hc0⟩ := hR.cell
      rw [List.length_cons] at hc0
      have HN := toHid (next_some hR)
      have HP := toHid (show _ ∧ _ from ⟨List.mem_of_getElem? hx, hx⟩)
      generalize (rest x ++ (c.drop (k + 1)).flatMap fun x => fst x :: rest x).length = nw at hc0
      have s1 : (0 : Int) < ((nw + 1 : Nat) : Int) := by omega
      have s1' : (0 : Int) < ((nw : Int) + 1) := by omega
      clear hR e hx
      go_wp2_with fail
      refine HN.out.mono ?_
      rintro e w2 ⟨rfl, _, r2, e2⟩
      have H2 := toHid (show _ ∧ _ from ⟨r2, HK.out.2.2.trans e2 (fun _ _ z => z)⟩)
      have HO2 : Hid (OwnT 194 w2 w.heap.size (.slice av k cv) (c.take k)) := own_ext HK.out.1 e2 (fun g hg z => by have h1 := (World.ownsRow.lt HK.out.1 g hg).1; have h2 := hrb.out; have z : g = rb := z; omega)
      clear r2 e2 HN hc0
      go_wp2_with fail
      refine (HRD.out w2 x _ HP.out.1 H2.out.2 H2.out.1).mono ?_
      rintro e w3 ⟨rfl, r3, e3⟩
      have HO3 : Hid (OwnT 194 w3 w.heap.size (.slice av k cv) (c.take k)) := own_ext HO2.out e3 (fun g hg z => by have h1 := (World.ownsRow.lt HO2.out g hg).1; have h2 := hrb.out; have z : g = rb := z; omega)
      have H3 := toHid (show _ ∧ _ from ⟨r3, H2.out.2.trans e3 (fun _ _ z => z)⟩)
      have hown : w3.ownsRow w.heap.size 194 2 (.slice av k cv) k (twoCells (c.take k)) := by
        have h := HO3.out
        unfold OwnT at h
        rw [List.length_take, HM.out, Nat.min_eq_left hk] at h
        exact h
      clear r3 e3 HO2
      obtain ⟨hi, hz0, hz1, hz2⟩ := HI.out
      go_wp2_with (first | (at_builtin; refine wpList_append_own _ rfl (.tmp 12) (.tmp 17) 45 rfl w.heap.size 194 i0 _ 2 16 Tryz.underlying45 hi hz0 hz1 hz2 rfl (by decide) _ _ _ rfl (hown.alloc _) ⟨w3.heap.size, 0, none⟩ 1 1 (twoCells [x]) rfl rfl (blk_at (heap_alloc_new w3 _)) (twoCells_one _) (by unfold maxLen; omega) (by omega) (by have h1 := H3.out.2.size; simp; omega) ?_))
      intro v' w' hown' hgrow _
      have hl' : slLen v' = k + 1 := by
        obtain ⟨_, _, hv', _⟩ := own_gen hown'
        rw [hv']; rfl
      have HW := toHid (show _ ∧ _ ∧ _ ∧ _ from ⟨OwnT.snoc hown' HP.out.2, Ext.grown (H3.out.2.alloc _) hgrow (fun g hg hlt => absurd hlt (by have := (World.ownsRow.lt hown g hg).1; omega)),
        (H3.out.1.ext0 ((Ext.refl Nope w3).alloc _)).ext (Ext.grown (S := fun b => (Value.slice av k cv).ownBlock = some b) (Ext.refl _ _) hgrow (fun g hg _ => hg)) (fun z => by have h1 := (World.ownsRow.lt hown rb z).1; have h2 := hrb.out; omega) (fun b hb z => by have h1 := (World.ownsRow.lt hown b z).1; have h2 := HB.out b hb.2; omega), hl'⟩)
      clear hown' hgrow hown hi hz0 hz1 hz2 hl'
      go_wp2
      go_roundw
      case rel => exact ⟨k + 1, by omega, HW.out.1, HW.out.2.2.1, HW.out.2.1⟩
      case measure => rw [HW.out.2.2.2]; simp only [slLen]; omega
    · have hkk : k = m := by omega
      subst hkk
      have hz : c.drop k = [] := List.drop_eq_nil_of_le (by rw [HM.out]; exact Nat.le_refl _)
      rw [hz, List.flatMap_nil] at hR
      obtain ⟨a0, cap0, hc0⟩ := hR.cell
      have hc0 : wr.cell? ⟨rb, 12, none⟩ = some (.slice a0 0 cap0) := hc0
      have HZ := toHid hR
      clear hz hR
      go_wp2
      go_ret
      refine ⟨_, rfl, ?_, HZ.out, HK.out.2.2⟩
      have h := HK.out.1
      rwa [List.take_of_length_le (by rw [HM.out]; exact Nat.le_refl _)] at h
set_option maxHeartbeats 1000000 in
/-- source.list at api.Grow, of nothing -/
theorem list_grows_none {w : World} {rb : Nat} {B : Nat → Prop} {cs : List Value} {f : FuncId} {caps : Array Value} (h : RL w rb B cs []) :
    Calls Tryz.prog 69 #[ptr rb, .func (.func f) #[] caps] w fun e w' => e = .returned (.slice none 0 0) ∧ w = w' := by
  obtain ⟨a0, cap0, hc0⟩ := h.cell
  have hc0 : w.cell? ⟨rb, 12, none⟩ = some (.slice a0 0 cap0) := hc0
  clear h
  go_enter Tryz.func69, Tryz.ntmps69
  go_wp2_with fail
  go_loopw [5] (fun o wr => o = .slice none 0 0 ∧ wr = w) (fun _ _ => 0)
  case atStart => exact ⟨rfl, rfl⟩
  case round =>
    obtain ⟨rfl, hw⟩ := hrel
    have hw := hw.symm
    subst hw
    go_wp2_with fail
    go_ret
    exact ⟨rfl, rfl⟩
end Go.Proofs.YtajebdpalnpjdaaGreatDoor
