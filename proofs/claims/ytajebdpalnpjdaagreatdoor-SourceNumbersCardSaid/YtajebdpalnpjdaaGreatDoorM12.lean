/-
  source.Parse: where all lines are lines.
  outline.Check of a glyph without anchors and deltas.
  font.CheckCore: its parts.
-/
import Derived.Test.YtajebdpalnpjdaaGreatDoorM11
import Derived.Test.YtajebdpalnpjdaaGreatDoorM03
namespace Go.Proofs.YtajebdpalnpjdaaGreatDoor
open Go.RowKit
attribute [local go_sem] alloc_drewN setCell_drewN

structure Sl where
  a : Option Addr
  n : Nat
  c : Nat
abbrev Sl.v (s : Sl) : Value := .slice s.a s.n s.c
/-- A font's cells. -/
structure FV where
  nm : ByteArray
  ver : Int
  ax : Sl
  rg : Sl
  cnt : Int
  ch : Sl
  pr : Sl
  hd : Sl
  rt : ByteArray
  lk : Sl
  gl : Sl
abbrev FV.cells (f : FV) : List Value := [.string f.nm, .int .i64 f.ver, f.ax.v, f.rg.v, .int .i64 f.cnt, f.ch.v, f.pr.v, f.hd.v, .string f.rt, f.lk.v, f.gl.v]
abbrev FV.val (f : FV) : Value := .agg #[.string f.nm, .int .i64 f.ver, f.ax.v, f.rg.v, .int .i64 f.cnt, f.ch.v, f.pr.v, f.hd.v, .string f.rt, f.lk.v, f.gl.v]
abbrev FV.counted (f : FV) : FV := { f with cnt := f.gl.n }
set_option maxRecDepth 100000 in
set_option maxHeartbeats 4000000 in
/-- source.Parse of lines, of fonts without lookups. -/
theorem parse_goes {w : World} (G : Glob w) (hg : 11 ≤ w.heap.size) {ls : List ByteArray} (hl : ∀ l ∈ ls, (10 : UInt8) ∉ l.data.toList) (h1 : 0 < ls.length) (hs : (textB ls ⟨#[]⟩).size ≤ 100000)
    {St : Nat → World → Prop} (hSt : ∀ k W W', St k W → Ext Nope W W' → St k W') (h0 : ∀ W, Ext Nope w W → RB W (w.heap.size + 1) cells0 (.slice none 0 0) → St 0 W)
    (hstep : ∀ k l W, ls[k]? = some l → St k W → Ext Nope w W → Calls Tryz.prog 11 #[ptr (w.heap.size + 1), .string l] W fun e w' => e = .returned (.bool true) ∧ St (k + 1) w' ∧ Ext (fun b => w.heap.size < b) W w')
    {R : World → FV → Int → Prop}
    (hend : ∀ W, St ls.length W → Ext Nope w W → ∃ (f : FV) (bf v : Value) (err : Int), RB W (w.heap.size + 1) (f.cells ++ [bf]) v ∧ f.lk.n = 0 ∧
      (∀ W', Ext Nope W W' → Calls Tryz.prog 13 #[f.counted.val] W' fun e w' => e = .returned (.int .i64 err) ∧ Ext Nope W' w') ∧ R W f.counted err) :
    Calls Tryz.prog 6 #[.string (textB ls ⟨#[]⟩)] w fun e w' => ∃ W f err, Ext Nope w W ∧ R W f err ∧ Ext (fun b => b = w.heap.size) W w' ∧ e = .returned (.tuple #[if err = 0 then FV.val f else noFont, .int .i64 0, .int .i64 err]) := by
  have HG := toHid G
  have HL := toHid hl
  obtain ⟨r, Hr⟩ : ∃ r : ByteArray, Hid ((⟨#[]⟩ : ByteArray) = r) := ⟨_, rfl⟩
  rw [Hr.out] at hs ⊢
  have HR := toHid (show _ ∧ _ from ⟨h1, hs⟩)
  obtain ⟨K, HKK⟩ : ∃ K, Hid (ls.length = K) := ⟨_, rfl⟩
  have HE := toHid hend
  have HSt := toHid hSt
  have H0 := toHid h0
  have HS := toHid hstep
  obtain ⟨jt, HJ⟩ : ∃ jt, Hid (textB ls r = jt) := ⟨_, rfl⟩
  rw [HJ.out]
  clear G hl hs hSt h0 hstep hend
  go_enter Tryz.func6, Tryz.ntmps6
  go_wp2_with fail
  have e1 : Ext Nope w ((w.alloc (.cells fontCells 36)).alloc (.cells (cells0 ++ [Value.slice none 0 0]).toArray 61)) := ((Ext.refl _ _).alloc _).alloc _
  have b1 : RB ((w.alloc (.cells fontCells 36)).alloc (.cells (cells0 ++ [Value.slice none 0 0]).toArray 61)) (w.heap.size + 1) cells0 (.slice none 0 0) := ⟨heap_alloc_at _ _ _ (alloc_size1 w _).symm, rfl⟩
  have hz1 : ((w.alloc (.cells fontCells 36)).alloc (.cells (cells0 ++ [Value.slice none 0 0]).toArray 61)).heap[w.heap.size]? = some (.cells fontCells 36 (0, 0)) := (heap_alloc_old _ _ _ (by rw [alloc_size1]; exact Nat.lt_succ_self _)).trans (heap_alloc_new w _)
  have H1 := toHid (show _ ∧ _ ∧ _ from ⟨H0.out _ e1 b1, e1, hz1⟩)
  clear e1 b1 hz1 H0
  go_loopw [6, 0] (fun n s wr => ∃ k : Nat, n = .int .i64 ((k : Int) + 1) ∧ s = .string (textB (ls.drop k) r) ∧ k ≤ K ∧ St k wr ∧ Ext Nope w wr ∧ wr.heap[w.heap.size]? = some (.cells fontCells 36 (0, 0))) (fun n _ _ => K + 2 - (intOf n).toNat)
  case atStart => exact ⟨0, rfl, by rw [← HJ.out]; rfl, Nat.zero_le _, H1.out⟩
  case round =>
    obtain ⟨k, rfl, rfl, hk, hSk, hE, hz⟩ := hrel
    rename World => wr
    obtain ⟨m, hm⟩ := (HG.out.ext0 hE).max
    have hsz : (textB (ls.drop k) r).size ≤ 100000 := Nat.le_trans (textB_drop ls r k) HR.out.2
    have HW := toHid (show _ ∧ _ ∧ _ from ⟨hSk, hE, hz⟩)
    clear hSk hE hz
    by_cases hkl : k < ls.length
    · obtain ⟨l, hlk⟩ : ∃ l, ls[k]? = some l := ⟨_, List.getElem?_eq_getElem hkl⟩
      have e : ls.drop k = l :: ls.drop (k + 1) := by rw [List.drop_eq_getElem_cons (List.getElem?_eq_some_iff.1 hlk).1, (List.getElem?_eq_some_iff.1 hlk).2]
      rw [e] at hsz ⊢
      have hne : ((textB (l :: ls.drop (k + 1)) r).toList == []) = false := textB_ne l _ r
      have HCut := toHid (cut_line hm (HL.out l (List.mem_of_getElem? hlk)) hsz)
      clear hsz hm e
      obtain ⟨tt, HT⟩ : ∃ tt, Hid (textB (l :: ls.drop (k + 1)) r = tt) := ⟨_, rfl⟩
      rw [HT.out] at HCut hne ⊢
      obtain ⟨tn, HTN⟩ : ∃ tn, Hid (textB (ls.drop (k + 1)) r = tn) := ⟨_, rfl⟩
      rw [HTN.out] at HCut
      have hlen : ls.length ≤ 100000 := Nat.le_trans (textB_len ls r) HR.out.2
      have s1 : IntKind.i64.wrap ((k : Int) + 1 + 1) = (k : Int) + 1 + 1 := IntWalk.i64_in _ (by omega)
      by_cases hk0 : ((k : Int) = 0)
      all_goals
        go_wp2_with fail
        refine HCut.out.mono ?_
        rintro e w2 ⟨rfl, e2⟩
        have H2 := toHid (show _ ∧ _ ∧ _ from ⟨HSt.out _ _ _ HW.out.1 e2, ext0 HW.out.2.1 e2, (e2.block _ (lt_of_heap HW.out.2.2) (fun z => z)).trans HW.out.2.2⟩)
        clear e2
        go_wp2_with fail
        have hkK : k < K := by rw [← HKK.out]; exact hkl
        refine (HS.out k l w2 hlk H2.out.1 H2.out.2.1).mono ?_
        rintro e w3 ⟨rfl, s3, e3⟩
        have H3 := toHid (show _ ∧ _ ∧ _ from ⟨s3, (H2.out.2.1.trans e3 (fun b hb z => by omega) : Ext Nope w w3), (e3.block _ (lt_of_heap H2.out.2.2) (fun z => absurd z (Nat.lt_irrefl _))).trans H2.out.2.2⟩)
        clear s3 e3
        go_wp2_with fail
        refine ⟨⟨k + 1, congrArg (Value.int .i64) (by omega), by rw [HTN.out], hkK, H3.out⟩, ?_⟩
        simp only [intOf]
        omega
    · have hkK : k = K := by have := HKK.out; omega
      subst hkK
      have e : ls.drop k = [] := List.drop_eq_nil_of_le (by have := HKK.out; omega)
      rw [e, textB_nil] at hsz ⊢
      have hk0 : ¬ ((k : Int) = 0) := by have := HKK.out; have := HR.out.1; omega
      have hne : (r.toList == []) = true := by rw [← Hr.out, ByteArray.toList_eq]; rfl
      clear hsz hm e hkl
      obtain ⟨⟨nm, ver, ⟨a2, n2, k2⟩, ⟨a3, n3, k3⟩, cnt, ⟨a5, n5, k5⟩, ⟨a6, n6, k6⟩, ⟨a7, n7, k7⟩, rt, ⟨al, nl, cl⟩, ⟨ag, ng, cg⟩⟩, bf, v, err, hrb, hnl, hchk, hR⟩ := HE.out wr (by rw [HKK.out]; exact HW.out.1) HW.out.2.1
      have hnl : nl = 0 := hnl
      subst hnl
      have c0 : wr.cell? ⟨w.heap.size + 1, 0, none⟩ = some (.string nm) := hrb.cell (by omega)
      have c1 : wr.cell? ⟨w.heap.size + 1, 1, none⟩ = some (.int .i64 ver) := hrb.cell (by omega)
      have c2 : wr.cell? ⟨w.heap.size + 1, 2, none⟩ = some (.slice a2 n2 k2) := hrb.cell (by omega)
      have c3 : wr.cell? ⟨w.heap.size + 1, 3, none⟩ = some (.slice a3 n3 k3) := hrb.cell (by omega)
      have c4 : wr.cell? ⟨w.heap.size + 1, 4, none⟩ = some (.int .i64 cnt) := hrb.cell (by omega)
      have c5 : wr.cell? ⟨w.heap.size + 1, 5, none⟩ = some (.slice a5 n5 k5) := hrb.cell (by omega)
      have c6 : wr.cell? ⟨w.heap.size + 1, 6, none⟩ = some (.slice a6 n6 k6) := hrb.cell (by omega)
      have c7 : wr.cell? ⟨w.heap.size + 1, 7, none⟩ = some (.slice a7 n7 k7) := hrb.cell (by omega)
      have c8 : wr.cell? ⟨w.heap.size + 1, 8, none⟩ = some (.string rt) := hrb.cell (by omega)
      have c9 : wr.cell? ⟨w.heap.size + 1, 9, none⟩ = some (.slice al 0 cl) := hrb.cell (by omega)
      have c10 : wr.cell? ⟨w.heap.size + 1, 10, none⟩ = some (.slice ag ng cg) := hrb.cell (by omega)
      have HX := toHid (show _ ∧ _ from ⟨hchk, hR⟩)
      clear hchk hR hrb
      go_wp2_with fail
      have e6 : Ext Nope wr (wr.alloc (.cells #[.string nm, .int .i64 ver, .slice a2 n2 k2, .slice a3 n3 k3, .int .i64 ng, .slice a5 n5 k5, .slice a6 n6 k6, .slice a7 n7 k7, .string rt, .slice al 0 cl, .slice ag ng cg] 36)) := (Ext.refl _ _).alloc _
      have hz6 : (wr.alloc (.cells #[.string nm, .int .i64 ver, .slice a2 n2 k2, .slice a3 n3 k3, .int .i64 ng, .slice a5 n5 k5, .slice a6 n6 k6, .slice a7 n7 k7, .string rt, .slice al 0 cl, .slice ag ng cg] 36)).heap[wr.heap.size]? = some (.cells #[.string nm, .int .i64 ver, .slice a2 n2 k2, .slice a3 n3 k3, .int .i64 ng, .slice a5 n5 k5, .slice a6 n6 k6, .slice a7 n7 k7, .string rt, .slice al 0 cl, .slice ag ng cg] 36 (0, 0)) := heap_alloc_new wr _
      obtain ⟨fb, HFB⟩ : ∃ fb, Hid (wr.heap.size = fb) := ⟨_, rfl⟩
      rw [HFB.out] at hz6 ⊢
      generalize wr.alloc _ = w6 at *
      clear c0 c1 c2 c3 c4 c5 c6 c7 c8 c9 c10
      have H6 := toHid (show _ ∧ _ from ⟨e6, hz6⟩)
      obtain ⟨d0, d1, d2, d3, d4, d5, d6, d7, d8, d9, d10⟩ := font_cells hz6
      clear e6 hz6
      go_loopw [53] (fun i wv => i = .int .i64 0 ∧ wv = w6) (fun _ _ => 0)
      case atStart => exact ⟨rfl, rfl⟩
      case round =>
        obtain ⟨rfl, hw⟩ := hrel
        have hw := hw.symm
        subst hw
        go_wp2_with fail
        refine (HX.out.1 _ H6.out.1).mono ?_
        rintro e w7 ⟨rfl, e7⟩
        have hz7 := (e7.block _ (Nat.lt_of_lt_of_le (lt_of_heap HW.out.2.2) H6.out.1.size) (fun z => z)).trans ((H6.out.1.block _ (lt_of_heap HW.out.2.2) (fun z => z)).trans HW.out.2.2)
        have c0 : w7.cell? ⟨w.heap.size, 0, none⟩ = some (.string ⟨#[]⟩) := by rw [show (⟨w.heap.size, 0, none⟩ : Addr) = at_ w.heap.size 0 from rfl, cell_of_blk hz7]; rfl
        have f0 : w7.frozen? ⟨w.heap.size, 0, none⟩ = false := free_of_blk hz7 0
        have c1 : w7.cell? ⟨w.heap.size, 1, none⟩ = some (.int .i64 0) := by rw [show (⟨w.heap.size, 1, none⟩ : Addr) = at_ w.heap.size 1 from rfl, cell_of_blk hz7]; rfl
        have f1 : w7.frozen? ⟨w.heap.size, 1, none⟩ = false := free_of_blk hz7 1
        have c2 : w7.cell? ⟨w.heap.size, 2, none⟩ = some (.slice none 0 0) := by rw [show (⟨w.heap.size, 2, none⟩ : Addr) = at_ w.heap.size 2 from rfl, cell_of_blk hz7]; rfl
        have f2 : w7.frozen? ⟨w.heap.size, 2, none⟩ = false := free_of_blk hz7 2
        have c3 : w7.cell? ⟨w.heap.size, 3, none⟩ = some (.slice none 0 0) := by rw [show (⟨w.heap.size, 3, none⟩ : Addr) = at_ w.heap.size 3 from rfl, cell_of_blk hz7]; rfl
        have f3 : w7.frozen? ⟨w.heap.size, 3, none⟩ = false := free_of_blk hz7 3
        have c4 : w7.cell? ⟨w.heap.size, 4, none⟩ = some (.int .i64 0) := by rw [show (⟨w.heap.size, 4, none⟩ : Addr) = at_ w.heap.size 4 from rfl, cell_of_blk hz7]; rfl
        have f4 : w7.frozen? ⟨w.heap.size, 4, none⟩ = false := free_of_blk hz7 4
        have c5 : w7.cell? ⟨w.heap.size, 5, none⟩ = some (.slice none 0 0) := by rw [show (⟨w.heap.size, 5, none⟩ : Addr) = at_ w.heap.size 5 from rfl, cell_of_blk hz7]; rfl
        have f5 : w7.frozen? ⟨w.heap.size, 5, none⟩ = false := free_of_blk hz7 5
        have c6 : w7.cell? ⟨w.heap.size, 6, none⟩ = some (.slice none 0 0) := by rw [show (⟨w.heap.size, 6, none⟩ : Addr) = at_ w.heap.size 6 from rfl, cell_of_blk hz7]; rfl
        have f6 : w7.frozen? ⟨w.heap.size, 6, none⟩ = false := free_of_blk hz7 6
        have c7 : w7.cell? ⟨w.heap.size, 7, none⟩ = some (.slice none 0 0) := by rw [show (⟨w.heap.size, 7, none⟩ : Addr) = at_ w.heap.size 7 from rfl, cell_of_blk hz7]; rfl
        have f7 : w7.frozen? ⟨w.heap.size, 7, none⟩ = false := free_of_blk hz7 7
        have c8 : w7.cell? ⟨w.heap.size, 8, none⟩ = some (.string ⟨#[]⟩) := by rw [show (⟨w.heap.size, 8, none⟩ : Addr) = at_ w.heap.size 8 from rfl, cell_of_blk hz7]; rfl
        have f8 : w7.frozen? ⟨w.heap.size, 8, none⟩ = false := free_of_blk hz7 8
        have c9 : w7.cell? ⟨w.heap.size, 9, none⟩ = some (.slice none 0 0) := by rw [show (⟨w.heap.size, 9, none⟩ : Addr) = at_ w.heap.size 9 from rfl, cell_of_blk hz7]; rfl
        have f9 : w7.frozen? ⟨w.heap.size, 9, none⟩ = false := free_of_blk hz7 9
        have c10 : w7.cell? ⟨w.heap.size, 10, none⟩ = some (.slice none 0 0) := by rw [show (⟨w.heap.size, 10, none⟩ : Addr) = at_ w.heap.size 10 from rfl, cell_of_blk hz7]; rfl
        have f10 : w7.frozen? ⟨w.heap.size, 10, none⟩ = false := free_of_blk hz7 10
        have hfb7 := (e7.block _ (lt_of_heap H6.out.2) (fun z => z)).trans H6.out.2
        obtain ⟨g0, g1, g2, g3, g4, g5, g6, g7, g8, g9, g10⟩ := font_cells hfb7
        have H7 := toHid (show _ ∧ _ from ⟨hz7, (H6.out.1.trans e7 (fun _ _ z => z) : Ext Nope wr w7)⟩)
        clear hz7 e7 hfb7 d0 d1 d2 d3 d4 d5 d6 d7 d8 d9 d10
        by_cases herr : err = 0
        · subst herr
          go_wp2_with fail
          obtain ⟨hz8, e8⟩ := store11 (v0 := (.string nm)) (v1 := (.int .i64 ver)) (v2 := (.slice a2 n2 k2)) (v3 := (.slice a3 n3 k3)) (v4 := (.int .i64 ng)) (v5 := (.slice a5 n5 k5)) (v6 := (.slice a6 n6 k6)) (v7 := (.slice a7 n7 k7)) (v8 := (.string rt)) (v9 := (.slice al 0 cl)) (v10 := (.slice ag ng cg)) H7.out.1
          generalize World.setCell _ _ _ = w8 at *
          obtain ⟨d0, d1, d2, d3, d4, d5, d6, d7, d8, d9, d10⟩ := font_cells hz8
          have e9 : Ext (fun b => b = w.heap.size) wr w8 := (H7.out.2.mono (fun _ z => z.elim)).trans e8 (fun b hb z => z)
          refine bodyPost_ret (v := .tuple #[.agg #[.string nm, .int .i64 ver, .slice a2 n2 k2, .slice a3 n3 k3, .int .i64 ng, .slice a5 n5 k5, .slice a6 n6 k6, .slice a7 n7 k7, .string rt, .slice al 0 cl, .slice ag ng cg], .int .i64 0, .int .i64 0]) ?_ rfl ⟨wr, _, _, HW.out.2.1, HX.out.2, e9, rfl⟩
          simp [results, Tryz.results6, go_sem, d0, d1, d2, d3, d4, d5, d6, d7, d8, d9, d10]
        · go_wp2_with fail
          obtain ⟨hz8, e8⟩ := store11 (v0 := (.string ⟨#[]⟩)) (v1 := (.int .i64 0)) (v2 := (.slice none 0 0)) (v3 := (.slice none 0 0)) (v4 := (.int .i64 0)) (v5 := (.slice none 0 0)) (v6 := (.slice none 0 0)) (v7 := (.slice none 0 0)) (v8 := (.string ⟨#[]⟩)) (v9 := (.slice none 0 0)) (v10 := (.slice none 0 0)) H7.out.1
          generalize World.setCell _ _ _ = w8 at *
          obtain ⟨d0, d1, d2, d3, d4, d5, d6, d7, d8, d9, d10⟩ := font_cells hz8
          have e9 : Ext (fun b => b = w.heap.size) wr w8 := (H7.out.2.mono (fun _ z => z.elim)).trans e8 (fun b hb z => z)
          refine bodyPost_ret (v := .tuple #[noFont, .int .i64 0, .int .i64 err]) ?_ rfl ⟨wr, _, _, HW.out.2.1, HX.out.2, e9, by rw [if_neg herr]⟩
          simp [results, Tryz.results6, go_sem, d0, d1, d2, d3, d4, d5, d6, d7, d8, d9, d10, noFont]
end Go.Proofs.YtajebdpalnpjdaaGreatDoor
namespace Go.Proofs.YtajebdpalnpjdaaGreatDoor
open Go.RowKit
attribute [local go_sem] alloc_drewN setCell_drewN

def glyphErr (g : GlyphA) : Int := if 6 < g.contours.length ∨ 40 < 1 + sumL g.contours then 2 else if g.contours.all contourOk = false then 12 else if g.advance < 0 ∨ 128 < g.advance then 3 else 0
theorem glyph_cells {w : World} {b : Nat} {T : TypeId} {x0 x1 x2 x3 x4 x5 x6 x7 : Value} (h : w.heap[b]? = some (.cells #[x0, x1, x2, x3, x4, x5, x6, x7] T (0, 0))) : w.cell? ⟨b, 0, none⟩ = some x0 ∧ w.cell? ⟨b, 1, none⟩ = some x1 ∧ w.cell? ⟨b, 2, none⟩ = some x2 ∧ w.cell? ⟨b, 3, none⟩ = some x3 ∧ w.cell? ⟨b, 4, none⟩ = some x4 ∧ w.cell? ⟨b, 5, none⟩ = some x5 ∧ w.cell? ⟨b, 6, none⟩ = some x6 ∧ w.cell? ⟨b, 7, none⟩ = some x7 := by
  refine ⟨?_, ?_, ?_, ?_, ?_, ?_, ?_, ?_⟩ <;> (rw [show ∀ j, (⟨b, j, none⟩ : Addr) = at_ b j from fun _ => rfl, cell_of_blk h]; rfl)
set_option maxRecDepth 100000 in
set_option maxHeartbeats 4000000 in
/-- outline.Check -/
theorem check_glyph {A : Nat → Prop} {w : World} {cs : List Value} {g : GlyphA} (n : Nat) (hn : n ≤ 8) (hp : Plain g) (hr : Rd A w cs (glyphD g)) (hb : sumL g.contours ≤ 1000000) (hl : g.contours.length ≤ 1000000) : Calls Tryz.prog 34 #[.agg cs.toArray, .int .i64 n] w fun e w' => e = .returned (.int .i64 (glyphErr g)) ∧ Ext Nope w w' := by
  have HD := toHid (fun W (e : Ext Nope w W) => deltas_none (w := W) n hp (hr.ext0 e) hb)
  have HPt := toHid (fun W (e : Ext Nope w W) => points_calls (w := W) hp (hr.ext0 e) hb)
  obtain ⟨v0, v1, v6, v7, rfl, h0, h1, h5, h6, h7⟩ := hr.glyph
  have H0 := toHid h0
  rw [hp.anchors] at h1
  rw [hp.hang] at HD HPt ⊢
  obtain ⟨a1, cap1, hv1, _⟩ := h1.len
  subst hv1
  obtain ⟨a0, cap0, hv0, _⟩ := h0.len
  rw [List.length_map] at hv0
  subst hv0
  obtain ⟨a6, cap6, hv6, _⟩ := h6.len
  rw [hp.deltas] at hv6
  subst hv6
  obtain ⟨a7, cap7, hv7, _⟩ := h7.len
  subst hv7
  simp only [List.map_nil, List.length_nil, List.length_map] at HD HPt ⊢
  have HCt := toHid (fun W (e : Ext Nope w W) => contours_calls (w := W) (H0.out.ext0 e))
  obtain ⟨q, HQ⟩ : ∃ q, Hid (g.contours.length = q) := ⟨_, rfl⟩
  obtain ⟨s, HS⟩ : ∃ s, Hid (sumL g.contours = s) := ⟨_, rfl⟩
  obtain ⟨ok, HO⟩ : ∃ ok, Hid (g.contours.all contourOk = ok) := ⟨_, rfl⟩
  obtain ⟨d, HDv⟩ : ∃ d, Hid (g.advance = d) := ⟨_, rfl⟩
  unfold glyphErr
  rw [HQ.out] at HD HPt HCt hl ⊢
  rw [HS.out] at HPt hb ⊢
  rw [HO.out] at HCt ⊢
  rw [HDv.out] at HD HPt h5 ⊢
  clear hr h0 h1 h6 h7 hp
  obtain ⟨E, HE⟩ : ∃ E : Int, Hid ((if 6 < q ∨ 40 < 1 + s then (2 : Int) else if ok = false then 12 else if d < 0 ∨ 128 < d then 3 else 0) = E) := ⟨_, rfl⟩
  rw [HE.out]
  have s0 : ¬ ((n : Int) < 0) := by omega
  have s0' : ¬ ((8 : Int) < (n : Int)) := by omega
  go_enter Tryz.func34, Tryz.ntmps34
  by_cases hq : 6 < q
  · have s1 : (6 : Int) < (q : Int) := by omega
    go_wp2_with fail
    go_ret
    exact ⟨congrArg (fun z => Ending.returned (Value.int .i64 z)) (by rw [← HE.out, if_pos (Or.inl hq)]), (Ext.refl _ _).alloc _⟩
  have s1 : ¬ (6 : Int) < (q : Int) := by omega
  have H1 := toHid (show _ ∧ _ from ⟨((Ext.refl Nope w).alloc (.cells #[.slice a0 q cap0, .slice a1 0 cap1, .int .i64 0, .int .i64 0, .int .i64 0, .int .i64 d, .slice a6 0 cap6, .slice a7 g.program.length cap7] 47) : Ext Nope w _), heap_alloc_new w (.cells #[.slice a0 q cap0, .slice a1 0 cap1, .int .i64 0, .int .i64 0, .int .i64 0, .int .i64 d, .slice a6 0 cap6, .slice a7 g.program.length cap7] 47)⟩)
  go_wp2_with fail
  refine (HPt.out _ H1.out.1).mono ?_
  rintro e w2 ⟨rfl, e2⟩
  have hz2 := (e2.block _ (lt_of_heap H1.out.2) (fun z => z)).trans H1.out.2
  have H2 := toHid (show _ ∧ _ from ⟨(ext0 H1.out.1 e2 : Ext Nope w w2), hz2⟩)
  obtain ⟨c0, c1, c2, c3, c4, c5, c6, c7⟩ := glyph_cells hz2
  clear e2 hz2
  by_cases h40 : 40 < 1 + s
  · have s2 : (40 : Int) < 1 + (s : Int) := by omega
    go_wp2_with fail
    go_ret
    exact ⟨congrArg (fun z => Ending.returned (Value.int .i64 z)) (by rw [← HE.out, if_pos (Or.inr h40)]), H2.out.1⟩
  have s2 : ¬ (40 : Int) < 1 + (s : Int) := by omega
  go_wp2_with fail
  refine (HCt.out _ H2.out.1).mono ?_
  rintro e w3 ⟨rfl, e3⟩
  have hz3 := (e3.block _ (lt_of_heap H2.out.2) (fun z => z)).trans H2.out.2
  have H3 := toHid (show _ ∧ _ from ⟨(ext0 H2.out.1 e3 : Ext Nope w w3), hz3⟩)
  obtain ⟨c0, c1, c2, c3, c4, c5, c6, c7⟩ := glyph_cells hz3
  clear e3 hz3
  clear HCt HPt
  cases ok with
  | false =>
    go_wp2_with fail
    go_ret
    exact ⟨congrArg (fun z => Ending.returned (Value.int .i64 z)) (by rw [← HE.out, if_neg (by omega)]; simp), H3.out.1⟩
  | true =>
  go_wp2_with fail
  refine (anchors_none w3 a1 cap1).mono ?_
  rintro e w4 ⟨rfl, e4⟩
  have hz4 := (e4.block _ (lt_of_heap H3.out.2) (fun z => z)).trans H3.out.2
  have H4 := toHid (show _ ∧ _ from ⟨(ext0 H3.out.1 e4 : Ext Nope w w4), hz4⟩)
  obtain ⟨c0, c1, c2, c3, c4, c5, c6, c7⟩ := glyph_cells hz4
  clear e4 hz4
  by_cases hd0 : d < 0
  · go_wp2_with fail
    go_ret
    exact ⟨congrArg (fun z => Ending.returned (Value.int .i64 z)) (by rw [← HE.out, if_neg (by omega)]; simp [hd0]), H4.out.1⟩
  by_cases hd1 : 128 < d
  · go_wp2_with fail
    go_ret
    exact ⟨congrArg (fun z => Ending.returned (Value.int .i64 z)) (by rw [← HE.out, if_neg (by omega)]; simp [hd1]), H4.out.1⟩
  go_wp2_with fail
  refine (HD.out _ H4.out.1).mono ?_
  rintro e w5 ⟨rfl, e5⟩
  have hz5 := (e5.block _ (lt_of_heap H4.out.2) (fun z => z)).trans H4.out.2
  have H5 := toHid (show _ ∧ _ from ⟨(ext0 H4.out.1 e5 : Ext Nope w w5), hz5⟩)
  obtain ⟨c0, c1, c2, c3, c4, c5, c6, c7⟩ := glyph_cells hz5
  clear e5 hz5
  go_wp2_with fail
  go_ret
  exact ⟨congrArg (fun z => Ending.returned (Value.int .i64 z)) (by rw [← HE.out, if_neg (by omega)]; simp; omega), H5.out.1⟩
end Go.Proofs.YtajebdpalnpjdaaGreatDoor
namespace Go.Proofs.YtajebdpalnpjdaaGreatDoor
open Go.RowKit
attribute [local go_sem] alloc_drewN setCell_drewN

abbrev n_a : ByteArray := ⟨#[97]⟩
set_option maxHeartbeats 1000000 in
/-- font.name of "a" -/
theorem name_a (w : World) : Calls Tryz.prog 141 #[.string n_a] w fun e w' => e = .returned (.bool true) ∧ Ext Nope w w' := by
  obtain ⟨s, HS⟩ : ∃ s, Hid (n_a = s) := ⟨_, rfl⟩
  have hsz : s.size = 1 := by rw [← HS.out]; rfl
  rw [HS.out]
  have hcv := run_bytes_of_string (P := Tryz.prog) w 9 57 5 s Tryz.underlying9 Tryz.underlying57 Tryz.underlying5
  have hrow : ∀ cap, (bytesRow s cap)[0]? = some (.int .u8 97) := fun cap => by rw [← HS.out]; exact bytesRow_at n_a cap 0 (by decide)
  generalize grownCap w s.size 0 5 = cap at hcv
  have hc0 : (w.drew.alloc (.cells (bytesRow s cap) 5 ((bytesRow s cap).size, (bytesRow s cap).size + 1))).cell? ⟨w.heap.size, 0, none⟩ = some (.int .u8 97) := by
    rw [show (⟨w.heap.size, 0, none⟩ : Addr) = at_ w.drew.heap.size 0 from rfl, cell_of_blk (heap_alloc_new w.drew _)]
    exact hrow cap
  have e1 : Ext Nope w (w.drew.alloc (.cells (bytesRow s cap) 5 ((bytesRow s cap).size, (bytesRow s cap).size + 1))) := (Ext.refl _ _).drew.alloc _
  rw [hsz] at hcv
  generalize w.drew.alloc _ = w1 at *
  go_enter Tryz.func141, Tryz.ntmps141
  go_wp2_with fail
  go_loopw [8] (fun i wr => (i = .int .i64 0 ∨ i = .int .i64 1) ∧ wr = w1) (fun i _ => 1 - (intOf i).toNat)
  case atStart => exact ⟨Or.inl rfl, rfl⟩
  case round =>
    obtain ⟨hi, hw⟩ := hrel
    have hw := hw.symm
    subst hw
    rcases hi with rfl | rfl
    · go_wp2
      go_round
      case rel => simp
      case measure => simp [intOf]
    · go_wp2
      go_ret
      exact ⟨rfl, e1⟩
theorem core_cells {w : World} {b : Nat} {T : TypeId} {x0 x1 x2 x3 x4 x5 x6 x7 x8 : Value} (h : w.heap[b]? = some (.cells #[x0, x1, x2, x3, x4, x5, x6, x7, x8] T (0, 0))) : w.cell? ⟨b, 0, none⟩ = some x0 ∧ w.cell? ⟨b, 1, none⟩ = some x1 ∧ w.cell? ⟨b, 2, none⟩ = some x2 ∧ w.cell? ⟨b, 3, none⟩ = some x3 ∧ w.cell? ⟨b, 4, none⟩ = some x4 ∧ w.cell? ⟨b, 5, none⟩ = some x5 ∧ w.cell? ⟨b, 6, none⟩ = some x6 ∧ w.cell? ⟨b, 7, none⟩ = some x7 ∧ w.cell? ⟨b, 8, none⟩ = some x8 := by
  refine ⟨?_, ?_, ?_, ?_, ?_, ?_, ?_, ?_, ?_⟩ <;> (rw [show ∀ j, (⟨b, j, none⟩ : Addr) = at_ b j from fun _ => rfl, cell_of_blk h]; rfl)
/-- A core's cells: neither axes nor regions nor pairs. -/
structure CV where
  ver : Int
  cnt : Int
  a5 : Option Addr
  n5 : Nat
  c5 : Nat
  a7 : Option Addr
  n7 : Nat
  c7 : Nat
abbrev CV.cells (f : CV) : Array Value := #[.string n_a, .int .i64 f.ver, .slice none 0 0, .slice none 0 0, .int .i64 f.cnt, .slice f.a5 f.n5 f.c5, .slice none 0 0, .slice f.a7 f.n7 f.c7, .string ⟨#[]⟩]
def headErr (f : CV) : Int := if ¬ (1 ≤ f.ver ∧ f.ver ≤ 999) then 43 else if 12 < f.n7 ∨ ¬ (1 ≤ f.cnt ∧ f.cnt ≤ 100) then 2 else 0
set_option maxRecDepth 100000 in
set_option maxHeartbeats 2000000 in
/-- font.head -/
theorem head_calls (f : CV) (w : World) : Calls Tryz.prog 74 #[.agg f.cells] w fun e w' => e = .returned (.int .i64 (headErr f)) ∧ Ext Nope w w' := by
  obtain ⟨E, HE⟩ : ∃ E, Hid (headErr f = E) := ⟨_, rfl⟩
  rw [HE.out]
  obtain ⟨ver, cnt, a5, n5, k5, a7, n7, k7⟩ := f
  have HW1 := toHid (fun W => fwithin_calls ver 1 999 W)
  have HW2 := toHid (fun W => fwithin_calls cnt 1 100 W)
  go_enter Tryz.func74, Tryz.ntmps74
  have hz1 := heap_alloc_new w (.cells #[.string n_a, .int .i64 ver, .slice none 0 0, .slice none 0 0, .int .i64 cnt, .slice a5 n5 k5, .slice none 0 0, .slice a7 n7 k7, .string ⟨#[]⟩] 32)
  have e1 : Ext Nope w (w.alloc (.cells #[.string n_a, .int .i64 ver, .slice none 0 0, .slice none 0 0, .int .i64 cnt, .slice a5 n5 k5, .slice none 0 0, .slice a7 n7 k7, .string ⟨#[]⟩] 32)) := (Ext.refl _ _).alloc _
  have H1 := toHid (show _ ∧ _ from ⟨e1, hz1⟩)
  clear e1 hz1
  go_wp2_with fail
  refine (name_a _).mono ?_
  rintro e w2 ⟨rfl, e2⟩
  have hz2 := (e2.block _ (lt_of_heap H1.out.2) (fun z => z)).trans H1.out.2
  have H2 := toHid (show _ ∧ _ from ⟨(ext0 H1.out.1 e2 : Ext Nope w w2), hz2⟩)
  obtain ⟨c0, c1, c2, c3, c4, c5, c6, c7, c8⟩ := core_cells hz2
  clear e2 hz2
  go_wp2_with fail
  refine (HW1.out _).mono ?_
  rintro e w3 ⟨rfl, rfl⟩
  by_cases hv : 1 ≤ ver ∧ ver ≤ 999
  · rw [show (decide (1 ≤ ver) && decide (ver ≤ 999)) = true by simp [hv.1, hv.2]]
    have s0 : ¬ ((3 : Int) < 0) := by omega
    by_cases h7 : 12 < n7
    · have s1 : (12 : Int) < (n7 : Int) := by omega
      go_wp2_with fail
      go_ret
      exact ⟨congrArg (fun z => Ending.returned (Value.int .i64 z)) (by rw [← HE.out]; unfold headErr; simp [hv.1, hv.2, h7]), H2.out.1⟩
    · have s1 : ¬ (12 : Int) < (n7 : Int) := by omega
      go_wp2_with fail
      refine (HW2.out _).mono ?_
      rintro e w3 ⟨rfl, rfl⟩
      by_cases hc : 1 ≤ cnt ∧ cnt ≤ 100
      · rw [show (decide (1 ≤ cnt) && decide (cnt ≤ 100)) = true by simp [hc.1, hc.2]]
        go_wp2_with fail
        go_ret
        exact ⟨congrArg (fun z => Ending.returned (Value.int .i64 z)) (by rw [← HE.out]; unfold headErr; simp [hv.1, hv.2, h7, hc.1, hc.2]), H2.out.1⟩
      · rw [show (decide (1 ≤ cnt) && decide (cnt ≤ 100)) = false by simp; omega]
        go_wp2_with fail
        go_ret
        exact ⟨congrArg (fun z => Ending.returned (Value.int .i64 z)) (by rw [← HE.out]; unfold headErr; rw [if_neg (by simp [hv.1, hv.2]), if_pos (Or.inr hc)]), H2.out.1⟩
  · rw [show (decide (1 ≤ ver) && decide (ver ≤ 999)) = false by simp; omega]
    go_wp2_with fail
    go_ret
    exact ⟨congrArg (fun z => Ending.returned (Value.int .i64 z)) (by rw [← HE.out]; unfold headErr; rw [if_pos hv]), H2.out.1⟩
end Go.Proofs.YtajebdpalnpjdaaGreatDoor
