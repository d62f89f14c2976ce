/-
  Put where there is room.
-/
import Derived.Test.YtkloaadaicklfaaH3
namespace Go.Proofs.Ytkloaadaicklfaa
open Go.RowKit
attribute [local go_sem] alloc_drewN setCell_drewN

set_option maxRecDepth 100000 in
set_option maxHeartbeats 2000000 in
theorem put_miss {w : World} {bm bh bk : Nat} {B : Int} {es : List (Nat × Kept)} (h : MRep w bm bh bk B es) (hB : Bounds B es) (o : Own) (s : Int) (s1 : 0 ≤ s) (s2 : s ≤ 65536) (ho : o ∉ keysOf es)
    (q : Int) (HQ : Hid (pinnedOf (kepts es) = q)) (q1 : 0 ≤ q) (q2 : q ≤ 1073741824) (hlen : es.length ≤ 1000000) (hf : q + s ≤ B) :
    Calls Try.prog 17 #[ptr bm, o.val, .int .i64 s] w (PutOK w bm bh bk B es es ⟨o, s, false⟩) := by
  have c3 := h.c3
  have c2 : w.cell? ⟨bm, 2, none⟩ = some (.int .i64 q) := by rw [h.c2, HQ.out]
  have hlt : bm < w.heap.size := lt_of_heap h.self
  have B0 := hB.lo
  have B1 := hB.hi
  obtain ⟨i0, hi, hz0, hz1, hz2⟩ := info_parts info34
  go_enter Try.func17, Try.ntmps17
  go_wp2_with fail
  refine (find_miss (w := (w.alloc (.cells (ownCells o) 34)).alloc (.cells #[.int .i64 o.f, .int .i64 o.k, .int .i64 o.n, .int .i64 o.r, .int .i64 s, .bool false] 73)) ((h.alloc _).alloc _) o ho).mono ?_
  rintro e w2 ⟨rfl, hx⟩
  have h2 : MRep w2 bm bh bk B es := ((h.alloc _).alloc _).ext hx (fun _ _ x => x)
  have x2 : XRow w2 (w.heap.size + 1) o s false := by
    refine (hx.block _ (by simp) (fun x => x)).trans ?_
    have := heap_alloc_new (w.alloc (.cells (ownCells o) 34)) (.cells #[.int .i64 o.f, .int .i64 o.k, .int .i64 o.n, .int .i64 o.r, .int .i64 s, .bool false] 73)
    rw [World.size_alloc] at this
    exact this
  have b2 : BRow w2 w.heap.size o := by
    have : w2.heap[w.heap.size]? = some (.cells (ownCells o) 34) := (hx.block _ (by simp; omega) (fun x => x)).trans ((heap_alloc_old _ _ _ (by simp)).trans (heap_alloc_new w _))
    exact this
  have E2 : Ext Nope w w2 := ext0 (((Ext.refl _ _).alloc _).alloc _) hx
  have d0 := h2.c0
  clear hx c2 c3
  have h4 := h2
  have x4 := x2
  have b4 : BRow w2 w.heap.size o := b2
  have hB4 := hB
  have nk := ho
  have E4 : Ext (Foot bm bh bk es) w w2 := E2.mono (fun _ x => x.elim)
  have c3 := h4.c3
  have c7 := h4.ring.starts
  clear h2 x2 b2 E2
  go_wp2
  clear c3 c7 d0
  go_loopg [12, 13] es.length (fun g v e wr => ∃ (a c : List (Nat × Kept)) (gone : List Own), EvRel B s es a c gone ∧
    c.length ≤ g ∧ gone.length + c.length ≤ es.length ∧ e = ptr (nextOf bh c) ∧ KeysAt wr (w.heap.size + 2) v gone ∧ MRep wr bm bh bk B (a ++ c) ∧ Bounds B (a ++ c) ∧ (∀ x ∈ a ++ c, x ∈ es) ∧ XRow wr (w.heap.size + 1) o s false ∧ BRow wr w.heap.size o ∧ Ext (Foot bm bh bk es) w wr)
  case atStart => exact ⟨[], es, [], ⟨rfl, rfl⟩, Nat.le_refl _, by simp, rfl, World.ownsRow_nil _ _ _ _, h4, hB4, fun x hx => hx, x4, b4, E4⟩
  case round =>
    obtain ⟨a, c, gone, HE, hr, hg, rfl, hk, hm, hb, hsub, hx, hbx, hE⟩ := hrel
    obtain ⟨u, HU⟩ : ∃ u, Hid (usedOf (kepts (a ++ c)) = u) := ⟨_, rfl⟩
    have c0 := hm.c0
    have c1 : wr.cell? ⟨bm, 1, none⟩ = some (.int .i64 u) := by rw [hm.c1, HU.out]
    have c3 := hm.c3
    have u1 : u ≤ B := by rw [← HU.out]; exact hb.used
    have u3 : 0 ≤ u := by rw [← HU.out]; exact used_nonneg hb.size
    by_cases hgo : ∃ y c', c = y :: c' ∧ B < u + s
    · obtain ⟨y, c', rfl, hgt⟩ := hgo
      simp only [nextOf_cons]
      have hym : y ∈ a ++ y :: c' := by simp
      have hr1 : Row wr bh 8 78 := hm.ring.rows bh (by simp)
      have hr2 : Row wr y.1 8 78 := hm.ring.rows y.1 (List.mem_cons_of_mem _ (List.mem_map_of_mem hym))
      have hne : y.1 ≠ bh := fun e => (List.nodup_cons.1 hm.ring.nodup).1 (e ▸ List.mem_map_of_mem hym)
      have hq := fun n => ptr_neq_other (w := wr.drewN n) hne hr2 hr1
      obtain ⟨v0, v1, v2, v3, v4, v5⟩ := hm.ring.vals y hym
      have c7 := hm.ring.at.2.1
      have hylt : y.1 < wr.heap.size := hr2.lt
      clear hr1 hr2 hne
      cases hyp : y.2.pinned
      · rw [hyp] at v5
        have hown : wr.ownsRow (w.heap.size + 2) 34 4 _ gone.length (keyCells gone) := hk
        have hln : gone.length + 1 ≤ 1000000 := by simp at hg hlen; omega
        go_wp2_with fail
        go_quiet (fail)
        go_wp2_with (first | (at_builtin; refine wpList_append_own _ rfl (.tmp 110) (.tmp 116) 43 rfl (w.heap.size + 2) 34 i0 _ 4 32 Try.underlying43 hi hz0 hz1 hz2 rfl (by decide) _ _ _ rfl (hown.alloc _) ⟨wr.heap.size, 0, none⟩ 1 1 (keyCells [y.2.key]) rfl rfl ?c1 ?c2 ?c3 ?c4 ?c5 ?_) | go_in)
        case c1 => exact keyCells_at (heap_alloc_new wr _)
        case c2 => exact keyCells_oneCell _
        case c3 => unfold maxLen; omega
        case c4 => omega
        case c5 => have := lt_of_heap hx; simp; omega
        intro v' w1 hown' hgrow _
        have hrowk : ∀ k, Value.ownBlock _ = some k → w.heap.size + 2 ≤ k := fun k hkk => KeysAt.block hk hkk
        have hx1 : Ext (Foot bm bh bk es) w w1 := ((hE.alloc _).drewN _).grown hgrow fun k hk2 hlt2 => absurd (hrowk k hk2) (by omega)
        have hblk : ∀ b, b < wr.heap.size → b < w.heap.size + 2 → w1.heap[b]? = wr.heap[b]? := fun b hb1 hb2 =>
          (hgrow.block b (show b < (wr.alloc _).heap.size by rw [World.size_alloc]; exact Nat.lt_succ_of_lt hb1) (fun e => absurd (hrowk b e.symm) (by omega))).trans (heap_alloc_old wr _ _ hb1)
        have hm1 : MRep w1 bm bh bk B (a ++ y :: c') := hm.of fun b hb' => hblk b (hm.lt hb') (Nat.lt_of_lt_of_le (foot_lt h hsub hb') (by omega))
        have x1 : XRow w1 (w.heap.size + 1) o s false := (hblk _ (lt_of_heap hx) (by omega)).trans hx
        have b1 : BRow w1 w.heap.size o := (hblk _ (lt_of_heap hbx) (by omega)).trans hbx
        have HO : KeysAt w1 (w.heap.size + 2) v' (gone ++ [y.2.key]) := KeysAt.snoc hown'
        have c7b : w1.cell? (at_ y.1 7) = some (ptr (nextOf bh c')) := hm1.ring.at.2.1
        have hgu : B < usedOf (kepts (a ++ y :: c')) + s := by rw [HU.out]; exact hgt
        have nf : ∀ k, w.heap.size ≤ k → ¬ Foot bm bh bk (a ++ y :: c') k := fun k hk1 hk2 => absurd (foot_lt h hsub hk2) (by omega)
        clear hown' hgrow hrowk hblk hown v0 v1 v2 v3 v4 v5 c7 c0 c1 c3 hq hE hylt c7b
        go_wp2_with fail
        refine (remove_rep hm1 hb).mono ?_
        rintro e w2' ⟨rfl, hm2, hx2, _⟩
        clear hm1
        go_wp2
        go_roundg c'.length
        case measure => simp at hr; omega
        case rel => exact ⟨a, c', gone ++ [y.2.key], HE.drop hgu hyp, Nat.le_refl _, by simp at hg ⊢; omega, rfl, HO.ext hx2 (fun k hk1 => nf k (by omega)), hm2, hb.erase, fun x hx => hsub x (by simp at hx ⊢; rcases hx with hx | hx <;> simp [hx]), x1.ext hx2 (nf _ (by omega)), b1.ext hx2 (nf _ (by omega)), hx1.trans hx2 (fun i _ hi => foot_sub hsub hi)⟩
      · rw [hyp] at v5
        have hgu : B < usedOf (kepts (a ++ y :: c')) + s := by rw [HU.out]; exact hgt
        go_wp2_with fail
        go_quiet (fail)
        go_wp2_with fail
        go_roundg c'.length
        case measure => simp at hr; omega
        case rel =>
          refine ⟨a ++ [y], c', gone, HE.keep hgu hyp, Nat.le_refl _, by simp at hg ⊢; omega, rfl, hk, ?_, ?_, ?_, hx, hbx, hE.drewN _⟩
          · rw [List.append_assoc]; exact hm.drewN _
          · rw [List.append_assoc]; exact hb
          · rw [List.append_assoc]; exact hsub
    · have hdone : ¬ B < usedOf (kepts (a ++ c)) + s ∨ c = [] := by
        cases c with
        | nil => exact .inr rfl
        | cons y c' => exact .inl fun hh => hgo ⟨y, c', rfl, by rw [← HU.out]; exact hh⟩
      obtain ⟨hd1, hd2⟩ := HE.done hdone
      have HD1 := toHid hd1
      have HD2 := toHid hd2
      have nk' : o ∉ keysOf (a ++ c) := fun hx => by
        obtain ⟨x, hx1, hx2⟩ := List.mem_map.1 hx
        exact nk (List.mem_map.2 ⟨x, hsub x hx1, hx2⟩)
      obtain ⟨m, hmm1, hmm2, hmm3⟩ := hm.index
      have F1 := finish1 hm o s false
      have hq2 : ∃ bb, (∀ n, (binOp .neq 62 (ptr (nextOf bh c)) (ptr bh)).run Try.prog (wr.drewN n) = .ok (.bool bb) (wr.drewN n)) ∧ (bb = true → u + s ≤ B) := by
        cases c with
        | nil => exact ⟨false, fun n => ptr_neq_same (wr.drewN n) bh, by simp⟩
        | cons y c' =>
          have hym : y ∈ a ++ y :: c' := by simp
          have hr1 : Row wr bh 8 78 := hm.ring.rows bh (by simp)
          have hr2 : Row wr y.1 8 78 := hm.ring.rows y.1 (List.mem_cons_of_mem _ (List.mem_map_of_mem hym))
          have hne : y.1 ≠ bh := fun e => (List.nodup_cons.1 hm.ring.nodup).1 (e ▸ List.mem_map_of_mem hym)
          refine ⟨true, fun n => ptr_neq_other (w := wr.drewN n) hne hr2 hr1, fun _ => ?_⟩
          have : ¬ B < u + s := fun hh => hgo ⟨y, c', rfl, hh⟩
          omega
      obtain ⟨bb, hq, hbb⟩ := hq2
      obtain ⟨x0, x1, x2, x3, x4', x5, _⟩ := hx.cells
      have hblt : bm < wr.heap.size := hm.lt (.inl rfl)
      have hbltN : ∀ n, bm < (wr.drewN n).heap.size := fun _ => hblt
      have hnlt : ∀ k, w.heap.size ≤ k → k ∉ bh :: blks (a ++ c) := fun k hk1 hk2 => by
        have := foot_lt h hsub (b := k) (bm := bm) (bk := bk) (by
          rcases List.mem_cons.1 hk2 with hk2 | hk2
          · exact .inr (.inl hk2)
          · exact .inr (.inr (.inr hk2)))
        omega
      have hbmn : bm ∉ bh :: blks (a ++ c) := by
        intro hz
        obtain ⟨a1, a2, a3, a4, a5⟩ := hm.apart
        rcases List.mem_cons.1 hz with hz | hz
        · exact a2 hz
        · obtain ⟨y, hy, hy2⟩ := List.mem_map.1 hz
          exact a4 y hy hy2
      have hbkn : bk ∉ bh :: blks (a ++ c) := by
        intro hz
        obtain ⟨a1, a2, a3, a4, a5⟩ := hm.apart
        rcases List.mem_cons.1 hz with hz | hz
        · exact a3 hz
        · obtain ⟨y, hy, hy2⟩ := List.mem_map.1 hz
          exact a5 y hy hy2
      have hmk := hm.apart.1
      have hxlt := lt_of_heap hx
      have hxk : w.heap.size + 1 ≠ bk := fun e => by have := foot_lt h hsub (b := bk) (bm := bm) (bk := bk) (bh := bh) (.inr (.inr (.inl rfl))); omega
      have hpb := pinned_bounds _ hb.size
      have HNK := toHid nk'
      have HF : Hid (∀ k, Foot bm bh bk (a ++ c) k → Foot bm bh bk es k ∧ k < w.heap.size) := fun k hk1 => ⟨foot_sub hsub hk1, foot_lt h hsub hk1⟩
      clear hd1 hd2 nk' hdone hgo hsub hg hr HE
      cases bb
      · clear hbb
        go_wp2_with fail
        go_quiet (fail)
        go_wp2_with fail
        refine (F1 _).mono ?_
        rintro e w6 ⟨rfl, hR6, hb6, ho6⟩
        have s6 := (hb6 bm hblt hbmn).trans hm.self
        have m6 : MapAs w6.drew bk m := hmm1.of (hb6 bk hmm1.lt hbkn)
        have X6 : XRow w6 (w.heap.size + 1) o s false := (hb6 _ hxlt (hnlt _ (by omega))).trans hx
        have B6 : BRow w6 w.heap.size o := (hb6 _ (by omega) (hnlt _ (Nat.le_refl _))).trans hbx
        obtain ⟨w7, hup, hm7, hb7, ho7⟩ := run_update34' Try.underlying63 m6 o (ptr wr.heap.size)
        obtain ⟨b0, b1, b2, b3⟩ := B6.cells
        have c4 : w6.cell? ⟨bm, 4, none⟩ = some (.map (some bk)) := by rw [show (⟨bm, 4, none⟩ : Addr) = at_ bm 4 from rfl, cell_of_blk s6]; rfl
        have s7 := (hb7 bm hmk).trans s6
        have d1 : w7.cell? ⟨bm, 1, none⟩ = some (.int .i64 u) := by rw [show (⟨bm, 1, none⟩ : Addr) = at_ bm 1 from rfl, cell_of_blk s7, ← HU.out]; rfl
        have d2 : w7.cell? ⟨bm, 2, none⟩ = some (.int .i64 (pinnedOf (kepts (a ++ c)))) := by rw [show (⟨bm, 2, none⟩ : Addr) = at_ bm 2 from rfl, cell_of_blk s7]; rfl
        have f1 : w7.frozen? ⟨bm, 1, none⟩ = false := free_of_blk s7 1
        have f2 : w7.frozen? ⟨bm, 2, none⟩ = false := free_of_blk s7 2
        have X7 : XRow w7 (w.heap.size + 1) o s false := (hb7 _ hxk).trans X6
        have x7 := X7.cells.2.2.2.2.2.1
        have hne5 : (w.heap.size + 1) ≠ bm := by omega
        rw [HU.out] at hpb
        obtain ⟨p1, p2⟩ := hpb
        have HP : Hid (∃ pp, pinnedOf (kepts (a ++ c)) = pp) := ⟨_, rfl⟩
        have G := fun (W : World) (hW : W = sumW w7 bm (usedOf (kepts (a ++ c))) (pinnedOf (kepts (a ++ c))) s false) =>
          (show MRep (W.drewN 0) bm bh bk B (a ++ c ++ [(wr.heap.size, ⟨o, s, false⟩)]) ∧ Ext (Foot bm bh bk (a ++ c)) wr (W.drewN 0) from hW ▸ finish2 (x := ⟨o, s, false⟩) hm rfl HNK.out hR6 hb6 ho6 hmm3 hmm2 hm7 hb7 ho7 0)
        rw [HU.out] at G
        have HG := toHid G
        clear G F1 hbltN hR6 hb6 ho6 s6 m6 X6 B6 s7 X7 hmm1 hmm2 hmm3 hm7 hb7 ho7 x0 x1 x2 x3 x4' x5 c0 c1 c3 hq
        generalize pinnedOf (kepts (a ++ c)) = pq at *
        go_wp2_with fail
        go_region
        go_wp2
        go_ret2
        exact PutOK.mk HD1.out HD2.out hk (HG.out _ rfl).1 (HG.out _ rfl).2 hE HF.out
      · have hbb' := hbb rfl
        clear hbb
        go_wp2_with fail
        go_quiet (fail)
        go_wp2_with fail
        refine (F1 _).mono ?_
        rintro e w6 ⟨rfl, hR6, hb6, ho6⟩
        have s6 := (hb6 bm hblt hbmn).trans hm.self
        have m6 : MapAs w6.drew bk m := hmm1.of (hb6 bk hmm1.lt hbkn)
        have X6 : XRow w6 (w.heap.size + 1) o s false := (hb6 _ hxlt (hnlt _ (by omega))).trans hx
        have B6 : BRow w6 w.heap.size o := (hb6 _ (by omega) (hnlt _ (Nat.le_refl _))).trans hbx
        obtain ⟨w7, hup, hm7, hb7, ho7⟩ := run_update34' Try.underlying63 m6 o (ptr wr.heap.size)
        obtain ⟨b0, b1, b2, b3⟩ := B6.cells
        have c4 : w6.cell? ⟨bm, 4, none⟩ = some (.map (some bk)) := by rw [show (⟨bm, 4, none⟩ : Addr) = at_ bm 4 from rfl, cell_of_blk s6]; rfl
        have s7 := (hb7 bm hmk).trans s6
        have d1 : w7.cell? ⟨bm, 1, none⟩ = some (.int .i64 u) := by rw [show (⟨bm, 1, none⟩ : Addr) = at_ bm 1 from rfl, cell_of_blk s7, ← HU.out]; rfl
        have d2 : w7.cell? ⟨bm, 2, none⟩ = some (.int .i64 (pinnedOf (kepts (a ++ c)))) := by rw [show (⟨bm, 2, none⟩ : Addr) = at_ bm 2 from rfl, cell_of_blk s7]; rfl
        have f1 : w7.frozen? ⟨bm, 1, none⟩ = false := free_of_blk s7 1
        have f2 : w7.frozen? ⟨bm, 2, none⟩ = false := free_of_blk s7 2
        have X7 : XRow w7 (w.heap.size + 1) o s false := (hb7 _ hxk).trans X6
        have x7 := X7.cells.2.2.2.2.2.1
        have hne5 : (w.heap.size + 1) ≠ bm := by omega
        rw [HU.out] at hpb
        obtain ⟨p1, p2⟩ := hpb
        have HP : Hid (∃ pp, pinnedOf (kepts (a ++ c)) = pp) := ⟨_, rfl⟩
        have G := fun (W : World) (hW : W = sumW w7 bm (usedOf (kepts (a ++ c))) (pinnedOf (kepts (a ++ c))) s false) =>
          (show MRep (W.drewN 0) bm bh bk B (a ++ c ++ [(wr.heap.size, ⟨o, s, false⟩)]) ∧ Ext (Foot bm bh bk (a ++ c)) wr (W.drewN 0) from hW ▸ finish2 (x := ⟨o, s, false⟩) hm rfl HNK.out hR6 hb6 ho6 hmm3 hmm2 hm7 hb7 ho7 0)
        rw [HU.out] at G
        have HG := toHid G
        clear G F1 hbltN hR6 hb6 ho6 s6 m6 X6 B6 s7 X7 hmm1 hmm2 hmm3 hm7 hb7 ho7 x0 x1 x2 x3 x4' x5 c0 c1 c3 hq
        generalize pinnedOf (kepts (a ++ c)) = pq at *
        go_wp2_with fail
        go_region
        go_wp2
        go_ret2
        exact PutOK.mk HD1.out HD2.out hk (HG.out _ rfl).1 (HG.out _ rfl).2 hE HF.out

set_option maxRecDepth 100000 in
set_option maxHeartbeats 2000000 in
theorem put_hit {w : World} {bm bh bk : Nat} {B : Int} {l r : List (Nat × Kept)} {p : Nat × Kept} (h : MRep w bm bh bk B (l ++ p :: r)) (hB : Bounds B (l ++ p :: r)) (o : Own) (s : Int) (s1 : 0 ≤ s) (s2 : s ≤ 65536) (ho : p.2.key = o) (hpin : p.2.pinned = false)
    (q : Int) (HQ : Hid (pinnedOf (kepts (l ++ p :: r)) = q)) (q1 : 0 ≤ q) (q2 : q ≤ 1073741824) (hlen : (l ++ p :: r).length ≤ 1000000) (hf : q + s ≤ B) :
    Calls Try.prog 17 #[ptr bm, o.val, .int .i64 s] w (PutOK w bm bh bk B (l ++ r) (l ++ p :: r) ⟨o, s, false⟩) := by
  have c3 := h.c3
  have c2 : w.cell? ⟨bm, 2, none⟩ = some (.int .i64 q) := by rw [h.c2, HQ.out]
  have hlt : bm < w.heap.size := lt_of_heap h.self
  have B0 := hB.lo
  have B1 := hB.hi
  obtain ⟨i0, hi, hz0, hz1, hz2⟩ := info_parts info34
  go_enter Try.func17, Try.ntmps17
  go_wp2_with fail
  refine (find_hit (w := (w.alloc (.cells (ownCells o) 34)).alloc (.cells #[.int .i64 o.f, .int .i64 o.k, .int .i64 o.n, .int .i64 o.r, .int .i64 s, .bool false] 73)) ((h.alloc _).alloc _) p (by simp) o ho).mono ?_
  rintro e w2 ⟨rfl, hx⟩
  have h2 : MRep w2 bm bh bk B (l ++ p :: r) := ((h.alloc _).alloc _).ext hx (fun _ _ x => x)
  have x2 : XRow w2 (w.heap.size + 1) o s false := by
    refine (hx.block _ (by simp) (fun x => x)).trans ?_
    have := heap_alloc_new (w.alloc (.cells (ownCells o) 34)) (.cells #[.int .i64 o.f, .int .i64 o.k, .int .i64 o.n, .int .i64 o.r, .int .i64 s, .bool false] 73)
    rw [World.size_alloc] at this
    exact this
  have b2 : BRow w2 w.heap.size o := by
    have : w2.heap[w.heap.size]? = some (.cells (ownCells o) 34) := (hx.block _ (by simp; omega) (fun x => x)).trans ((heap_alloc_old _ _ _ (by simp)).trans (heap_alloc_new w _))
    exact this
  have E2 : Ext Nope w w2 := ext0 (((Ext.refl _ _).alloc _).alloc _) hx
  have d0 := h2.c0
  clear hx c2 c3
  obtain ⟨_, _, _, _, e4, e5⟩ := h2.ring.vals p (by simp)
  obtain ⟨z1, z2⟩ := hB.size p (by simp)
  rw [hpin] at e5
  obtain ⟨_, _, _, _, _, _, fx⟩ := x2.cells
  obtain ⟨_, _, _, _, _, hx5, _⟩ := x2.cells
  have nf : ∀ k, w.heap.size ≤ k → ¬ Foot bm bh bk (l ++ p :: r) k := fun k hk1 hk2 => absurd (h.lt hk2) (by omega)
  have nk : o ∉ keysOf (l ++ r) := fun hx => by
    have hkk := h.keys
    rw [← ho] at hx
    simp only [keysOf, List.map_append, List.map_cons] at hkk hx
    rw [List.nodup_append] at hkk
    obtain ⟨_, k2, k3⟩ := hkk
    rcases List.mem_append.1 hx with hx | hx
    · exact k3 _ hx _ (by simp) rfl
    · exact (List.nodup_cons.1 k2).1 hx
  have h3 := h2
  have x3 := x2
  have b3 := b2
  have E3 := E2
  have HO2 := toHid ho
  clear ho
  go_wp2_with fail
  refine (remove_rep h3 hB).mono ?_
  rintro e w4 ⟨rfl, h4, hx4, _⟩
  have x4 := x3.ext hx4 (nf _ (by omega))
  have b4 := b3.ext hx4 (nf _ (Nat.le_refl _))
  have hB4 := hB.erase
  have E4 : Ext (Foot bm bh bk (l ++ p :: r)) w w4 := ext1 E3 hx4
  clear e4 e5 fx hx5 h3 x3 b3 E3 hx4 z1 z2 nf
  have c3 := h4.c3
  have c7 := h4.ring.starts
  clear h2 x2 b2 E2
  go_wp2
  clear c3 c7 d0
  go_loopg [12, 13] (l ++ r).length (fun g v e wr => ∃ (a c : List (Nat × Kept)) (gone : List Own), EvRel B s (l ++ r) a c gone ∧
    c.length ≤ g ∧ gone.length + c.length ≤ (l ++ r).length ∧ e = ptr (nextOf bh c) ∧ KeysAt wr (w.heap.size + 2) v gone ∧ MRep wr bm bh bk B (a ++ c) ∧ Bounds B (a ++ c) ∧ (∀ x ∈ a ++ c, x ∈ (l ++ r)) ∧ XRow wr (w.heap.size + 1) o s false ∧ BRow wr w.heap.size o ∧ Ext (Foot bm bh bk (l ++ p :: r)) w wr)
  case atStart => exact ⟨[], (l ++ r), [], ⟨rfl, rfl⟩, Nat.le_refl _, by simp, rfl, World.ownsRow_nil _ _ _ _, h4, hB4, fun x hx => hx, x4, b4, E4⟩
  case round =>
    obtain ⟨a, c, gone, HE, hr, hg, rfl, hk, hm, hb, hsub, hx, hbx, hE⟩ := hrel
    obtain ⟨u, HU⟩ : ∃ u, Hid (usedOf (kepts (a ++ c)) = u) := ⟨_, rfl⟩
    have c0 := hm.c0
    have c1 : wr.cell? ⟨bm, 1, none⟩ = some (.int .i64 u) := by rw [hm.c1, HU.out]
    have c3 := hm.c3
    have u1 : u ≤ B := by rw [← HU.out]; exact hb.used
    have u3 : 0 ≤ u := by rw [← HU.out]; exact used_nonneg hb.size
    by_cases hgo : ∃ y c', c = y :: c' ∧ B < u + s
    · obtain ⟨y, c', rfl, hgt⟩ := hgo
      simp only [nextOf_cons]
      have hym : y ∈ a ++ y :: c' := by simp
      have hr1 : Row wr bh 8 78 := hm.ring.rows bh (by simp)
      have hr2 : Row wr y.1 8 78 := hm.ring.rows y.1 (List.mem_cons_of_mem _ (List.mem_map_of_mem hym))
      have hne : y.1 ≠ bh := fun e => (List.nodup_cons.1 hm.ring.nodup).1 (e ▸ List.mem_map_of_mem hym)
      have hq := fun n => ptr_neq_other (w := wr.drewN n) hne hr2 hr1
      obtain ⟨v0, v1, v2, v3, v4, v5⟩ := hm.ring.vals y hym
      have c7 := hm.ring.at.2.1
      have hylt : y.1 < wr.heap.size := hr2.lt
      clear hr1 hr2 hne
      cases hyp : y.2.pinned
      · rw [hyp] at v5
        have hown : wr.ownsRow (w.heap.size + 2) 34 4 _ gone.length (keyCells gone) := hk
        have hln : gone.length + 1 ≤ 1000000 := by simp at hg hlen; omega
        go_wp2_with fail
        go_quiet (fail)
        go_wp2_with (first | (at_builtin; refine wpList_append_own _ rfl (.tmp 110) (.tmp 116) 43 rfl (w.heap.size + 2) 34 i0 _ 4 32 Try.underlying43 hi hz0 hz1 hz2 rfl (by decide) _ _ _ rfl (hown.alloc _) ⟨wr.heap.size, 0, none⟩ 1 1 (keyCells [y.2.key]) rfl rfl ?c1 ?c2 ?c3 ?c4 ?c5 ?_) | go_in)
        case c1 => exact keyCells_at (heap_alloc_new wr _)
        case c2 => exact keyCells_oneCell _
        case c3 => unfold maxLen; omega
        case c4 => omega
        case c5 => have := lt_of_heap hx; simp; omega
        intro v' w1 hown' hgrow _
        have hrowk : ∀ k, Value.ownBlock _ = some k → w.heap.size + 2 ≤ k := fun k hkk => KeysAt.block hk hkk
        have hx1 : Ext (Foot bm bh bk (l ++ p :: r)) w w1 := ((hE.alloc _).drewN _).grown hgrow fun k hk2 hlt2 => absurd (hrowk k hk2) (by omega)
        have hblk : ∀ b, b < wr.heap.size → b < w.heap.size + 2 → w1.heap[b]? = wr.heap[b]? := fun b hb1 hb2 =>
          (hgrow.block b (show b < (wr.alloc _).heap.size by rw [World.size_alloc]; exact Nat.lt_succ_of_lt hb1) (fun e => absurd (hrowk b e.symm) (by omega))).trans (heap_alloc_old wr _ _ hb1)
        have hm1 : MRep w1 bm bh bk B (a ++ y :: c') := hm.of fun b hb' => hblk b (hm.lt hb') (Nat.lt_of_lt_of_le (foot_lt h (fun x hx => by have := hsub x hx; simp at this ⊢; rcases this with h | h <;> simp [h]) hb') (by omega))
        have x1 : XRow w1 (w.heap.size + 1) o s false := (hblk _ (lt_of_heap hx) (by omega)).trans hx
        have b1 : BRow w1 w.heap.size o := (hblk _ (lt_of_heap hbx) (by omega)).trans hbx
        have HO : KeysAt w1 (w.heap.size + 2) v' (gone ++ [y.2.key]) := KeysAt.snoc hown'
        have c7b : w1.cell? (at_ y.1 7) = some (ptr (nextOf bh c')) := hm1.ring.at.2.1
        have hgu : B < usedOf (kepts (a ++ y :: c')) + s := by rw [HU.out]; exact hgt
        have nf : ∀ k, w.heap.size ≤ k → ¬ Foot bm bh bk (a ++ y :: c') k := fun k hk1 hk2 => absurd (foot_lt h (fun x hx => by have := hsub x hx; simp at this ⊢; rcases this with h | h <;> simp [h]) hk2) (by omega)
        clear hown' hgrow hrowk hblk hown v0 v1 v2 v3 v4 v5 c7 c0 c1 c3 hq hE hylt c7b
        go_wp2_with fail
        refine (remove_rep hm1 hb).mono ?_
        rintro e w2' ⟨rfl, hm2, hx2, _⟩
        clear hm1
        go_wp2
        go_roundg c'.length
        case measure => simp at hr; omega
        case rel => exact ⟨a, c', gone ++ [y.2.key], HE.drop hgu hyp, Nat.le_refl _, by simp at hg ⊢; omega, rfl, HO.ext hx2 (fun k hk1 => nf k (by omega)), hm2, hb.erase, fun x hx => hsub x (by simp at hx ⊢; rcases hx with hx | hx <;> simp [hx]), x1.ext hx2 (nf _ (by omega)), b1.ext hx2 (nf _ (by omega)), hx1.trans hx2 (fun i _ hi => foot_sub (fun x hx => by have := hsub x hx; simp at this ⊢; rcases this with h | h <;> simp [h]) hi)⟩
      · rw [hyp] at v5
        have hgu : B < usedOf (kepts (a ++ y :: c')) + s := by rw [HU.out]; exact hgt
        go_wp2_with fail
        go_quiet (fail)
        go_wp2_with fail
        go_roundg c'.length
        case measure => simp at hr; omega
        case rel =>
          refine ⟨a ++ [y], c', gone, HE.keep hgu hyp, Nat.le_refl _, by simp at hg ⊢; omega, rfl, hk, ?_, ?_, ?_, hx, hbx, hE.drewN _⟩
          · rw [List.append_assoc]; exact hm.drewN _
          · rw [List.append_assoc]; exact hb
          · rw [List.append_assoc]; exact hsub
    · have hdone : ¬ B < usedOf (kepts (a ++ c)) + s ∨ c = [] := by
        cases c with
        | nil => exact .inr rfl
        | cons y c' => exact .inl fun hh => hgo ⟨y, c', rfl, by rw [← HU.out]; exact hh⟩
      obtain ⟨hd1, hd2⟩ := HE.done hdone
      have HD1 := toHid hd1
      have HD2 := toHid hd2
      have nk' : o ∉ keysOf (a ++ c) := fun hx => by
        obtain ⟨x, hx1, hx2⟩ := List.mem_map.1 hx
        exact nk (List.mem_map.2 ⟨x, hsub x hx1, hx2⟩)
      obtain ⟨m, hmm1, hmm2, hmm3⟩ := hm.index
      have F1 := finish1 hm o s false
      have hq2 : ∃ bb, (∀ n, (binOp .neq 62 (ptr (nextOf bh c)) (ptr bh)).run Try.prog (wr.drewN n) = .ok (.bool bb) (wr.drewN n)) ∧ (bb = true → u + s ≤ B) := by
        cases c with
        | nil => exact ⟨false, fun n => ptr_neq_same (wr.drewN n) bh, by simp⟩
        | cons y c' =>
          have hym : y ∈ a ++ y :: c' := by simp
          have hr1 : Row wr bh 8 78 := hm.ring.rows bh (by simp)
          have hr2 : Row wr y.1 8 78 := hm.ring.rows y.1 (List.mem_cons_of_mem _ (List.mem_map_of_mem hym))
          have hne : y.1 ≠ bh := fun e => (List.nodup_cons.1 hm.ring.nodup).1 (e ▸ List.mem_map_of_mem hym)
          refine ⟨true, fun n => ptr_neq_other (w := wr.drewN n) hne hr2 hr1, fun _ => ?_⟩
          have : ¬ B < u + s := fun hh => hgo ⟨y, c', rfl, hh⟩
          omega
      obtain ⟨bb, hq, hbb⟩ := hq2
      obtain ⟨x0, x1, x2, x3, x4', x5, _⟩ := hx.cells
      have hblt : bm < wr.heap.size := hm.lt (.inl rfl)
      have hbltN : ∀ n, bm < (wr.drewN n).heap.size := fun _ => hblt
      have hnlt : ∀ k, w.heap.size ≤ k → k ∉ bh :: blks (a ++ c) := fun k hk1 hk2 => by
        have := foot_lt h (fun x hx => by have := hsub x hx; simp at this ⊢; rcases this with h | h <;> simp [h]) (b := k) (bm := bm) (bk := bk) (by
          rcases List.mem_cons.1 hk2 with hk2 | hk2
          · exact .inr (.inl hk2)
          · exact .inr (.inr (.inr hk2)))
        omega
      have hbmn : bm ∉ bh :: blks (a ++ c) := by
        intro hz
        obtain ⟨a1, a2, a3, a4, a5⟩ := hm.apart
        rcases List.mem_cons.1 hz with hz | hz
        · exact a2 hz
        · obtain ⟨y, hy, hy2⟩ := List.mem_map.1 hz
          exact a4 y hy hy2
      have hbkn : bk ∉ bh :: blks (a ++ c) := by
        intro hz
        obtain ⟨a1, a2, a3, a4, a5⟩ := hm.apart
        rcases List.mem_cons.1 hz with hz | hz
        · exact a3 hz
        · obtain ⟨y, hy, hy2⟩ := List.mem_map.1 hz
          exact a5 y hy hy2
      have hmk := hm.apart.1
      have hxlt := lt_of_heap hx
      have hxk : w.heap.size + 1 ≠ bk := fun e => by have := foot_lt h (fun x hx => by have := hsub x hx; simp at this ⊢; rcases this with h | h <;> simp [h]) (b := bk) (bm := bm) (bk := bk) (bh := bh) (.inr (.inr (.inl rfl))); omega
      have hpb := pinned_bounds _ hb.size
      have HNK := toHid nk'
      have HF : Hid (∀ k, Foot bm bh bk (a ++ c) k → Foot bm bh bk (l ++ p :: r) k ∧ k < w.heap.size) := fun k hk1 => ⟨foot_sub (fun x hx => by have := hsub x hx; simp at this ⊢; rcases this with h | h <;> simp [h]) hk1, foot_lt h (fun x hx => by have := hsub x hx; simp at this ⊢; rcases this with h | h <;> simp [h]) hk1⟩
      clear hd1 hd2 nk' hdone hgo hsub hg hr HE
      cases bb
      · clear hbb
        go_wp2_with fail
        go_quiet (fail)
        go_wp2_with fail
        refine (F1 _).mono ?_
        rintro e w6 ⟨rfl, hR6, hb6, ho6⟩
        have s6 := (hb6 bm hblt hbmn).trans hm.self
        have m6 : MapAs w6.drew bk m := hmm1.of (hb6 bk hmm1.lt hbkn)
        have X6 : XRow w6 (w.heap.size + 1) o s false := (hb6 _ hxlt (hnlt _ (by omega))).trans hx
        have B6 : BRow w6 w.heap.size o := (hb6 _ (by omega) (hnlt _ (Nat.le_refl _))).trans hbx
        obtain ⟨w7, hup, hm7, hb7, ho7⟩ := run_update34' Try.underlying63 m6 o (ptr wr.heap.size)
        obtain ⟨b0, b1, b2, b3⟩ := B6.cells
        have c4 : w6.cell? ⟨bm, 4, none⟩ = some (.map (some bk)) := by rw [show (⟨bm, 4, none⟩ : Addr) = at_ bm 4 from rfl, cell_of_blk s6]; rfl
        have s7 := (hb7 bm hmk).trans s6
        have d1 : w7.cell? ⟨bm, 1, none⟩ = some (.int .i64 u) := by rw [show (⟨bm, 1, none⟩ : Addr) = at_ bm 1 from rfl, cell_of_blk s7, ← HU.out]; rfl
        have d2 : w7.cell? ⟨bm, 2, none⟩ = some (.int .i64 (pinnedOf (kepts (a ++ c)))) := by rw [show (⟨bm, 2, none⟩ : Addr) = at_ bm 2 from rfl, cell_of_blk s7]; rfl
        have f1 : w7.frozen? ⟨bm, 1, none⟩ = false := free_of_blk s7 1
        have f2 : w7.frozen? ⟨bm, 2, none⟩ = false := free_of_blk s7 2
        have X7 : XRow w7 (w.heap.size + 1) o s false := (hb7 _ hxk).trans X6
        have x7 := X7.cells.2.2.2.2.2.1
        have hne5 : (w.heap.size + 1) ≠ bm := by omega
        rw [HU.out] at hpb
        obtain ⟨p1, p2⟩ := hpb
        have HP : Hid (∃ pp, pinnedOf (kepts (a ++ c)) = pp) := ⟨_, rfl⟩
        have G := fun (W : World) (hW : W = sumW w7 bm (usedOf (kepts (a ++ c))) (pinnedOf (kepts (a ++ c))) s false) =>
          (show MRep (W.drewN 0) bm bh bk B (a ++ c ++ [(wr.heap.size, ⟨o, s, false⟩)]) ∧ Ext (Foot bm bh bk (a ++ c)) wr (W.drewN 0) from hW ▸ finish2 (x := ⟨o, s, false⟩) hm rfl HNK.out hR6 hb6 ho6 hmm3 hmm2 hm7 hb7 ho7 0)
        rw [HU.out] at G
        have HG := toHid G
        clear G F1 hbltN hR6 hb6 ho6 s6 m6 X6 B6 s7 X7 hmm1 hmm2 hmm3 hm7 hb7 ho7 x0 x1 x2 x3 x4' x5 c0 c1 c3 hq
        generalize pinnedOf (kepts (a ++ c)) = pq at *
        go_wp2_with fail
        go_region
        go_wp2
        go_ret2
        exact PutOK.mk HD1.out HD2.out hk (HG.out _ rfl).1 (HG.out _ rfl).2 hE HF.out
      · have hbb' := hbb rfl
        clear hbb
        go_wp2_with fail
        go_quiet (fail)
        go_wp2_with fail
        refine (F1 _).mono ?_
        rintro e w6 ⟨rfl, hR6, hb6, ho6⟩
        have s6 := (hb6 bm hblt hbmn).trans hm.self
        have m6 : MapAs w6.drew bk m := hmm1.of (hb6 bk hmm1.lt hbkn)
        have X6 : XRow w6 (w.heap.size + 1) o s false := (hb6 _ hxlt (hnlt _ (by omega))).trans hx
        have B6 : BRow w6 w.heap.size o := (hb6 _ (by omega) (hnlt _ (Nat.le_refl _))).trans hbx
        obtain ⟨w7, hup, hm7, hb7, ho7⟩ := run_update34' Try.underlying63 m6 o (ptr wr.heap.size)
        obtain ⟨b0, b1, b2, b3⟩ := B6.cells
        have c4 : w6.cell? ⟨bm, 4, none⟩ = some (.map (some bk)) := by rw [show (⟨bm, 4, none⟩ : Addr) = at_ bm 4 from rfl, cell_of_blk s6]; rfl
        have s7 := (hb7 bm hmk).trans s6
        have d1 : w7.cell? ⟨bm, 1, none⟩ = some (.int .i64 u) := by rw [show (⟨bm, 1, none⟩ : Addr) = at_ bm 1 from rfl, cell_of_blk s7, ← HU.out]; rfl
        have d2 : w7.cell? ⟨bm, 2, none⟩ = some (.int .i64 (pinnedOf (kepts (a ++ c)))) := by rw [show (⟨bm, 2, none⟩ : Addr) = at_ bm 2 from rfl, cell_of_blk s7]; rfl
        have f1 : w7.frozen? ⟨bm, 1, none⟩ = false := free_of_blk s7 1
        have f2 : w7.frozen? ⟨bm, 2, none⟩ = false := free_of_blk s7 2
        have X7 : XRow w7 (w.heap.size + 1) o s false := (hb7 _ hxk).trans X6
        have x7 := X7.cells.2.2.2.2.2.1
        have hne5 : (w.heap.size + 1) ≠ bm := by omega
        rw [HU.out] at hpb
        obtain ⟨p1, p2⟩ := hpb
        have HP : Hid (∃ pp, pinnedOf (kepts (a ++ c)) = pp) := ⟨_, rfl⟩
        have G := fun (W : World) (hW : W = sumW w7 bm (usedOf (kepts (a ++ c))) (pinnedOf (kepts (a ++ c))) s false) =>
          (show MRep (W.drewN 0) bm bh bk B (a ++ c ++ [(wr.heap.size, ⟨o, s, false⟩)]) ∧ Ext (Foot bm bh bk (a ++ c)) wr (W.drewN 0) from hW ▸ finish2 (x := ⟨o, s, false⟩) hm rfl HNK.out hR6 hb6 ho6 hmm3 hmm2 hm7 hb7 ho7 0)
        rw [HU.out] at G
        have HG := toHid G
        clear G F1 hbltN hR6 hb6 ho6 s6 m6 X6 B6 s7 X7 hmm1 hmm2 hmm3 hm7 hb7 ho7 x0 x1 x2 x3 x4' x5 c0 c1 c3 hq
        generalize pinnedOf (kepts (a ++ c)) = pq at *
        go_wp2_with fail
        go_region
        go_wp2
        go_ret2
        exact PutOK.mk HD1.out HD2.out hk (HG.out _ rfl).1 (HG.out _ rfl).2 hE HF.out

set_option maxRecDepth 100000 in
set_option maxHeartbeats 2000000 in
theorem put_pin {w : World} {bm bh bk : Nat} {B : Int} {l r : List (Nat × Kept)} {p : Nat × Kept} (h : MRep w bm bh bk B (l ++ p :: r)) (hB : Bounds B (l ++ p :: r)) (o : Own) (s : Int) (s1 : 0 ≤ s) (s2 : s ≤ 65536) (ho : p.2.key = o) (hpin : p.2.pinned = true)
    (q : Int) (HQ : Hid (pinnedOf (kepts (l ++ p :: r)) = q)) (q1 : 0 ≤ q) (q2 : q ≤ 1073741824) (hlen : (l ++ p :: r).length ≤ 1000000) (hf : (q - p.2.size) + s ≤ B) :
    Calls Try.prog 17 #[ptr bm, o.val, .int .i64 s] w (PutOK w bm bh bk B (l ++ r) (l ++ p :: r) ⟨o, s, true⟩) := by
  have c3 := h.c3
  have c2 : w.cell? ⟨bm, 2, none⟩ = some (.int .i64 q) := by rw [h.c2, HQ.out]
  have hlt : bm < w.heap.size := lt_of_heap h.self
  have B0 := hB.lo
  have B1 := hB.hi
  obtain ⟨i0, hi, hz0, hz1, hz2⟩ := info_parts info34
  go_enter Try.func17, Try.ntmps17
  go_wp2_with fail
  refine (find_hit (w := (w.alloc (.cells (ownCells o) 34)).alloc (.cells #[.int .i64 o.f, .int .i64 o.k, .int .i64 o.n, .int .i64 o.r, .int .i64 s, .bool false] 73)) ((h.alloc _).alloc _) p (by simp) o ho).mono ?_
  rintro e w2 ⟨rfl, hx⟩
  have h2 : MRep w2 bm bh bk B (l ++ p :: r) := ((h.alloc _).alloc _).ext hx (fun _ _ x => x)
  have x2 : XRow w2 (w.heap.size + 1) o s false := by
    refine (hx.block _ (by simp) (fun x => x)).trans ?_
    have := heap_alloc_new (w.alloc (.cells (ownCells o) 34)) (.cells #[.int .i64 o.f, .int .i64 o.k, .int .i64 o.n, .int .i64 o.r, .int .i64 s, .bool false] 73)
    rw [World.size_alloc] at this
    exact this
  have b2 : BRow w2 w.heap.size o := by
    have : w2.heap[w.heap.size]? = some (.cells (ownCells o) 34) := (hx.block _ (by simp; omega) (fun x => x)).trans ((heap_alloc_old _ _ _ (by simp)).trans (heap_alloc_new w _))
    exact this
  have E2 : Ext Nope w w2 := ext0 (((Ext.refl _ _).alloc _).alloc _) hx
  have d0 := h2.c0
  clear hx c2 c3
  obtain ⟨_, _, _, _, e4, e5⟩ := h2.ring.vals p (by simp)
  obtain ⟨z1, z2⟩ := hB.size p (by simp)
  rw [hpin] at e5
  obtain ⟨_, _, _, _, _, _, fx⟩ := x2.cells
  obtain ⟨_, _, _, _, _, hx5, _⟩ := x2.cells
  have nf : ∀ k, w.heap.size ≤ k → ¬ Foot bm bh bk (l ++ p :: r) k := fun k hk1 hk2 => absurd (h.lt hk2) (by omega)
  have nk : o ∉ keysOf (l ++ r) := fun hx => by
    have hkk := h.keys
    rw [← ho] at hx
    simp only [keysOf, List.map_append, List.map_cons] at hkk hx
    rw [List.nodup_append] at hkk
    obtain ⟨_, k2, k3⟩ := hkk
    rcases List.mem_append.1 hx with hx | hx
    · exact k3 _ hx _ (by simp) rfl
    · exact (List.nodup_cons.1 k2).1 hx
  have h3 : MRep (w2.setCell ⟨w.heap.size + 1, 5, none⟩ (.bool true)) bm bh bk B (l ++ p :: r) := h2.of fun b hb => heap_setCell_ne _ _ _ _ _ (fun e => nf b (by omega) hb)
  have x3 : XRow (w2.setCell ⟨w.heap.size + 1, 5, none⟩ (.bool true)) (w.heap.size + 1) o s true := heap_setCell_eq _ _ _ _ _ _ _ x2
  have b3 : BRow (w2.setCell ⟨w.heap.size + 1, 5, none⟩ (.bool true)) w.heap.size o := (heap_setCell_ne _ _ _ _ _ (by omega)).trans b2
  have E3 : Ext Nope w (w2.setCell ⟨w.heap.size + 1, 5, none⟩ (.bool true)) := E2.setCell _ _ (fun hk => absurd hk (by omega)) _
  have HO2 := toHid ho
  clear ho
  go_wp2_with fail
  refine (remove_rep h3 hB).mono ?_
  rintro e w4 ⟨rfl, h4, hx4, _⟩
  have x4 := x3.ext hx4 (nf _ (by omega))
  have b4 := b3.ext hx4 (nf _ (Nat.le_refl _))
  have hB4 := hB.erase
  have E4 : Ext (Foot bm bh bk (l ++ p :: r)) w w4 := ext1 E3 hx4
  clear e4 e5 fx hx5 h3 x3 b3 E3 hx4 z1 z2 nf
  have c3 := h4.c3
  have c7 := h4.ring.starts
  clear h2 x2 b2 E2
  go_wp2
  clear c3 c7 d0
  go_loopg [12, 13] (l ++ r).length (fun g v e wr => ∃ (a c : List (Nat × Kept)) (gone : List Own), EvRel B s (l ++ r) a c gone ∧
    c.length ≤ g ∧ gone.length + c.length ≤ (l ++ r).length ∧ e = ptr (nextOf bh c) ∧ KeysAt wr (w.heap.size + 2) v gone ∧ MRep wr bm bh bk B (a ++ c) ∧ Bounds B (a ++ c) ∧ (∀ x ∈ a ++ c, x ∈ (l ++ r)) ∧ XRow wr (w.heap.size + 1) o s true ∧ BRow wr w.heap.size o ∧ Ext (Foot bm bh bk (l ++ p :: r)) w wr)
  case atStart => exact ⟨[], (l ++ r), [], ⟨rfl, rfl⟩, Nat.le_refl _, by simp, rfl, World.ownsRow_nil _ _ _ _, h4, hB4, fun x hx => hx, x4, b4, E4⟩
  case round =>
    obtain ⟨a, c, gone, HE, hr, hg, rfl, hk, hm, hb, hsub, hx, hbx, hE⟩ := hrel
    obtain ⟨u, HU⟩ : ∃ u, Hid (usedOf (kepts (a ++ c)) = u) := ⟨_, rfl⟩
    have c0 := hm.c0
    have c1 : wr.cell? ⟨bm, 1, none⟩ = some (.int .i64 u) := by rw [hm.c1, HU.out]
    have c3 := hm.c3
    have u1 : u ≤ B := by rw [← HU.out]; exact hb.used
    have u3 : 0 ≤ u := by rw [← HU.out]; exact used_nonneg hb.size
    by_cases hgo : ∃ y c', c = y :: c' ∧ B < u + s
    · obtain ⟨y, c', rfl, hgt⟩ := hgo
      simp only [nextOf_cons]
      have hym : y ∈ a ++ y :: c' := by simp
      have hr1 : Row wr bh 8 78 := hm.ring.rows bh (by simp)
      have hr2 : Row wr y.1 8 78 := hm.ring.rows y.1 (List.mem_cons_of_mem _ (List.mem_map_of_mem hym))
      have hne : y.1 ≠ bh := fun e => (List.nodup_cons.1 hm.ring.nodup).1 (e ▸ List.mem_map_of_mem hym)
      have hq := fun n => ptr_neq_other (w := wr.drewN n) hne hr2 hr1
      obtain ⟨v0, v1, v2, v3, v4, v5⟩ := hm.ring.vals y hym
      have c7 := hm.ring.at.2.1
      have hylt : y.1 < wr.heap.size := hr2.lt
      clear hr1 hr2 hne
      cases hyp : y.2.pinned
      · rw [hyp] at v5
        have hown : wr.ownsRow (w.heap.size + 2) 34 4 _ gone.length (keyCells gone) := hk
        have hln : gone.length + 1 ≤ 1000000 := by simp at hg hlen; omega
        go_wp2_with fail
        go_quiet (fail)
        go_wp2_with (first | (at_builtin; refine wpList_append_own _ rfl (.tmp 110) (.tmp 116) 43 rfl (w.heap.size + 2) 34 i0 _ 4 32 Try.underlying43 hi hz0 hz1 hz2 rfl (by decide) _ _ _ rfl (hown.alloc _) ⟨wr.heap.size, 0, none⟩ 1 1 (keyCells [y.2.key]) rfl rfl ?c1 ?c2 ?c3 ?c4 ?c5 ?_) | go_in)
        case c1 => exact keyCells_at (heap_alloc_new wr _)
        case c2 => exact keyCells_oneCell _
        case c3 => unfold maxLen; omega
        case c4 => omega
        case c5 => have := lt_of_heap hx; simp; omega
        intro v' w1 hown' hgrow _
        have hrowk : ∀ k, Value.ownBlock _ = some k → w.heap.size + 2 ≤ k := fun k hkk => KeysAt.block hk hkk
        have hx1 : Ext (Foot bm bh bk (l ++ p :: r)) w w1 := ((hE.alloc _).drewN _).grown hgrow fun k hk2 hlt2 => absurd (hrowk k hk2) (by omega)
        have hblk : ∀ b, b < wr.heap.size → b < w.heap.size + 2 → w1.heap[b]? = wr.heap[b]? := fun b hb1 hb2 =>
          (hgrow.block b (show b < (wr.alloc _).heap.size by rw [World.size_alloc]; exact Nat.lt_succ_of_lt hb1) (fun e => absurd (hrowk b e.symm) (by omega))).trans (heap_alloc_old wr _ _ hb1)
        have hm1 : MRep w1 bm bh bk B (a ++ y :: c') := hm.of fun b hb' => hblk b (hm.lt hb') (Nat.lt_of_lt_of_le (foot_lt h (fun x hx => by have := hsub x hx; simp at this ⊢; rcases this with h | h <;> simp [h]) hb') (by omega))
        have x1 : XRow w1 (w.heap.size + 1) o s true := (hblk _ (lt_of_heap hx) (by omega)).trans hx
        have b1 : BRow w1 w.heap.size o := (hblk _ (lt_of_heap hbx) (by omega)).trans hbx
        have HO : KeysAt w1 (w.heap.size + 2) v' (gone ++ [y.2.key]) := KeysAt.snoc hown'
        have c7b : w1.cell? (at_ y.1 7) = some (ptr (nextOf bh c')) := hm1.ring.at.2.1
        have hgu : B < usedOf (kepts (a ++ y :: c')) + s := by rw [HU.out]; exact hgt
        have nf : ∀ k, w.heap.size ≤ k → ¬ Foot bm bh bk (a ++ y :: c') k := fun k hk1 hk2 => absurd (foot_lt h (fun x hx => by have := hsub x hx; simp at this ⊢; rcases this with h | h <;> simp [h]) hk2) (by omega)
        clear hown' hgrow hrowk hblk hown v0 v1 v2 v3 v4 v5 c7 c0 c1 c3 hq hE hylt c7b
        go_wp2_with fail
        refine (remove_rep hm1 hb).mono ?_
        rintro e w2' ⟨rfl, hm2, hx2, _⟩
        clear hm1
        go_wp2
        go_roundg c'.length
        case measure => simp at hr; omega
        case rel => exact ⟨a, c', gone ++ [y.2.key], HE.drop hgu hyp, Nat.le_refl _, by simp at hg ⊢; omega, rfl, HO.ext hx2 (fun k hk1 => nf k (by omega)), hm2, hb.erase, fun x hx => hsub x (by simp at hx ⊢; rcases hx with hx | hx <;> simp [hx]), x1.ext hx2 (nf _ (by omega)), b1.ext hx2 (nf _ (by omega)), hx1.trans hx2 (fun i _ hi => foot_sub (fun x hx => by have := hsub x hx; simp at this ⊢; rcases this with h | h <;> simp [h]) hi)⟩
      · rw [hyp] at v5
        have hgu : B < usedOf (kepts (a ++ y :: c')) + s := by rw [HU.out]; exact hgt
        go_wp2_with fail
        go_quiet (fail)
        go_wp2_with fail
        go_roundg c'.length
        case measure => simp at hr; omega
        case rel =>
          refine ⟨a ++ [y], c', gone, HE.keep hgu hyp, Nat.le_refl _, by simp at hg ⊢; omega, rfl, hk, ?_, ?_, ?_, hx, hbx, hE.drewN _⟩
          · rw [List.append_assoc]; exact hm.drewN _
          · rw [List.append_assoc]; exact hb
          · rw [List.append_assoc]; exact hsub
    · have hdone : ¬ B < usedOf (kepts (a ++ c)) + s ∨ c = [] := by
        cases c with
        | nil => exact .inr rfl
        | cons y c' => exact .inl fun hh => hgo ⟨y, c', rfl, by rw [← HU.out]; exact hh⟩
      obtain ⟨hd1, hd2⟩ := HE.done hdone
      have HD1 := toHid hd1
      have HD2 := toHid hd2
      have nk' : o ∉ keysOf (a ++ c) := fun hx => by
        obtain ⟨x, hx1, hx2⟩ := List.mem_map.1 hx
        exact nk (List.mem_map.2 ⟨x, hsub x hx1, hx2⟩)
      obtain ⟨m, hmm1, hmm2, hmm3⟩ := hm.index
      have F1 := finish1 hm o s true
      have hq2 : ∃ bb, (∀ n, (binOp .neq 62 (ptr (nextOf bh c)) (ptr bh)).run Try.prog (wr.drewN n) = .ok (.bool bb) (wr.drewN n)) ∧ (bb = true → u + s ≤ B) := by
        cases c with
        | nil => exact ⟨false, fun n => ptr_neq_same (wr.drewN n) bh, by simp⟩
        | cons y c' =>
          have hym : y ∈ a ++ y :: c' := by simp
          have hr1 : Row wr bh 8 78 := hm.ring.rows bh (by simp)
          have hr2 : Row wr y.1 8 78 := hm.ring.rows y.1 (List.mem_cons_of_mem _ (List.mem_map_of_mem hym))
          have hne : y.1 ≠ bh := fun e => (List.nodup_cons.1 hm.ring.nodup).1 (e ▸ List.mem_map_of_mem hym)
          refine ⟨true, fun n => ptr_neq_other (w := wr.drewN n) hne hr2 hr1, fun _ => ?_⟩
          have : ¬ B < u + s := fun hh => hgo ⟨y, c', rfl, hh⟩
          omega
      obtain ⟨bb, hq, hbb⟩ := hq2
      obtain ⟨x0, x1, x2, x3, x4', x5, _⟩ := hx.cells
      have hblt : bm < wr.heap.size := hm.lt (.inl rfl)
      have hbltN : ∀ n, bm < (wr.drewN n).heap.size := fun _ => hblt
      have hnlt : ∀ k, w.heap.size ≤ k → k ∉ bh :: blks (a ++ c) := fun k hk1 hk2 => by
        have := foot_lt h (fun x hx => by have := hsub x hx; simp at this ⊢; rcases this with h | h <;> simp [h]) (b := k) (bm := bm) (bk := bk) (by
          rcases List.mem_cons.1 hk2 with hk2 | hk2
          · exact .inr (.inl hk2)
          · exact .inr (.inr (.inr hk2)))
        omega
      have hbmn : bm ∉ bh :: blks (a ++ c) := by
        intro hz
        obtain ⟨a1, a2, a3, a4, a5⟩ := hm.apart
        rcases List.mem_cons.1 hz with hz | hz
        · exact a2 hz
        · obtain ⟨y, hy, hy2⟩ := List.mem_map.1 hz
          exact a4 y hy hy2
      have hbkn : bk ∉ bh :: blks (a ++ c) := by
        intro hz
        obtain ⟨a1, a2, a3, a4, a5⟩ := hm.apart
        rcases List.mem_cons.1 hz with hz | hz
        · exact a3 hz
        · obtain ⟨y, hy, hy2⟩ := List.mem_map.1 hz
          exact a5 y hy hy2
      have hmk := hm.apart.1
      have hxlt := lt_of_heap hx
      have hxk : w.heap.size + 1 ≠ bk := fun e => by have := foot_lt h (fun x hx => by have := hsub x hx; simp at this ⊢; rcases this with h | h <;> simp [h]) (b := bk) (bm := bm) (bk := bk) (bh := bh) (.inr (.inr (.inl rfl))); omega
      have hpb := pinned_bounds _ hb.size
      have HNK := toHid nk'
      have HF : Hid (∀ k, Foot bm bh bk (a ++ c) k → Foot bm bh bk (l ++ p :: r) k ∧ k < w.heap.size) := fun k hk1 => ⟨foot_sub (fun x hx => by have := hsub x hx; simp at this ⊢; rcases this with h | h <;> simp [h]) hk1, foot_lt h (fun x hx => by have := hsub x hx; simp at this ⊢; rcases this with h | h <;> simp [h]) hk1⟩
      clear hd1 hd2 nk' hdone hgo hsub hg hr HE
      cases bb
      · clear hbb
        go_wp2_with fail
        go_quiet (fail)
        go_wp2_with fail
        refine (F1 _).mono ?_
        rintro e w6 ⟨rfl, hR6, hb6, ho6⟩
        have s6 := (hb6 bm hblt hbmn).trans hm.self
        have m6 : MapAs w6.drew bk m := hmm1.of (hb6 bk hmm1.lt hbkn)
        have X6 : XRow w6 (w.heap.size + 1) o s true := (hb6 _ hxlt (hnlt _ (by omega))).trans hx
        have B6 : BRow w6 w.heap.size o := (hb6 _ (by omega) (hnlt _ (Nat.le_refl _))).trans hbx
        obtain ⟨w7, hup, hm7, hb7, ho7⟩ := run_update34' Try.underlying63 m6 o (ptr wr.heap.size)
        obtain ⟨b0, b1, b2, b3⟩ := B6.cells
        have c4 : w6.cell? ⟨bm, 4, none⟩ = some (.map (some bk)) := by rw [show (⟨bm, 4, none⟩ : Addr) = at_ bm 4 from rfl, cell_of_blk s6]; rfl
        have s7 := (hb7 bm hmk).trans s6
        have d1 : w7.cell? ⟨bm, 1, none⟩ = some (.int .i64 u) := by rw [show (⟨bm, 1, none⟩ : Addr) = at_ bm 1 from rfl, cell_of_blk s7, ← HU.out]; rfl
        have d2 : w7.cell? ⟨bm, 2, none⟩ = some (.int .i64 (pinnedOf (kepts (a ++ c)))) := by rw [show (⟨bm, 2, none⟩ : Addr) = at_ bm 2 from rfl, cell_of_blk s7]; rfl
        have f1 : w7.frozen? ⟨bm, 1, none⟩ = false := free_of_blk s7 1
        have f2 : w7.frozen? ⟨bm, 2, none⟩ = false := free_of_blk s7 2
        have X7 : XRow w7 (w.heap.size + 1) o s true := (hb7 _ hxk).trans X6
        have x7 := X7.cells.2.2.2.2.2.1
        have hne5 : (w.heap.size + 1) ≠ bm := by omega
        rw [HU.out] at hpb
        obtain ⟨p1, p2⟩ := hpb
        have HP : Hid (∃ pp, pinnedOf (kepts (a ++ c)) = pp) := ⟨_, rfl⟩
        have G := fun (W : World) (hW : W = sumW w7 bm (usedOf (kepts (a ++ c))) (pinnedOf (kepts (a ++ c))) s true) =>
          (show MRep (W.drewN 0) bm bh bk B (a ++ c ++ [(wr.heap.size, ⟨o, s, true⟩)]) ∧ Ext (Foot bm bh bk (a ++ c)) wr (W.drewN 0) from hW ▸ finish2 (x := ⟨o, s, true⟩) hm rfl HNK.out hR6 hb6 ho6 hmm3 hmm2 hm7 hb7 ho7 0)
        rw [HU.out] at G
        have HG := toHid G
        clear G F1 hbltN hR6 hb6 ho6 s6 m6 X6 B6 s7 X7 hmm1 hmm2 hmm3 hm7 hb7 ho7 x0 x1 x2 x3 x4' x5 c0 c1 c3 hq
        generalize pinnedOf (kepts (a ++ c)) = pq at *
        go_wp2_with fail
        go_region
        go_wp2
        go_ret2
        exact PutOK.mk HD1.out HD2.out hk (HG.out _ rfl).1 (HG.out _ rfl).2 hE HF.out
      · have hbb' := hbb rfl
        clear hbb
        go_wp2_with fail
        go_quiet (fail)
        go_wp2_with fail
        refine (F1 _).mono ?_
        rintro e w6 ⟨rfl, hR6, hb6, ho6⟩
        have s6 := (hb6 bm hblt hbmn).trans hm.self
        have m6 : MapAs w6.drew bk m := hmm1.of (hb6 bk hmm1.lt hbkn)
        have X6 : XRow w6 (w.heap.size + 1) o s true := (hb6 _ hxlt (hnlt _ (by omega))).trans hx
        have B6 : BRow w6 w.heap.size o := (hb6 _ (by omega) (hnlt _ (Nat.le_refl _))).trans hbx
        obtain ⟨w7, hup, hm7, hb7, ho7⟩ := run_update34' Try.underlying63 m6 o (ptr wr.heap.size)
        obtain ⟨b0, b1, b2, b3⟩ := B6.cells
        have c4 : w6.cell? ⟨bm, 4, none⟩ = some (.map (some bk)) := by rw [show (⟨bm, 4, none⟩ : Addr) = at_ bm 4 from rfl, cell_of_blk s6]; rfl
        have s7 := (hb7 bm hmk).trans s6
        have d1 : w7.cell? ⟨bm, 1, none⟩ = some (.int .i64 u) := by rw [show (⟨bm, 1, none⟩ : Addr) = at_ bm 1 from rfl, cell_of_blk s7, ← HU.out]; rfl
        have d2 : w7.cell? ⟨bm, 2, none⟩ = some (.int .i64 (pinnedOf (kepts (a ++ c)))) := by rw [show (⟨bm, 2, none⟩ : Addr) = at_ bm 2 from rfl, cell_of_blk s7]; rfl
        have f1 : w7.frozen? ⟨bm, 1, none⟩ = false := free_of_blk s7 1
        have f2 : w7.frozen? ⟨bm, 2, none⟩ = false := free_of_blk s7 2
        have X7 : XRow w7 (w.heap.size + 1) o s true := (hb7 _ hxk).trans X6
        have x7 := X7.cells.2.2.2.2.2.1
        have hne5 : (w.heap.size + 1) ≠ bm := by omega
        rw [HU.out] at hpb
        obtain ⟨p1, p2⟩ := hpb
        have HP : Hid (∃ pp, pinnedOf (kepts (a ++ c)) = pp) := ⟨_, rfl⟩
        have G := fun (W : World) (hW : W = sumW w7 bm (usedOf (kepts (a ++ c))) (pinnedOf (kepts (a ++ c))) s true) =>
          (show MRep (W.drewN 0) bm bh bk B (a ++ c ++ [(wr.heap.size, ⟨o, s, true⟩)]) ∧ Ext (Foot bm bh bk (a ++ c)) wr (W.drewN 0) from hW ▸ finish2 (x := ⟨o, s, true⟩) hm rfl HNK.out hR6 hb6 ho6 hmm3 hmm2 hm7 hb7 ho7 0)
        rw [HU.out] at G
        have HG := toHid G
        clear G F1 hbltN hR6 hb6 ho6 s6 m6 X6 B6 s7 X7 hmm1 hmm2 hmm3 hm7 hb7 ho7 x0 x1 x2 x3 x4' x5 c0 c1 c3 hq
        generalize pinnedOf (kepts (a ++ c)) = pq at *
        go_wp2_with fail
        go_region
        go_wp2
        go_ret2
        exact PutOK.mk HD1.out HD2.out hk (HG.out _ rfl).1 (HG.out _ rfl).2 hE HF.out

end Go.Proofs.Ytkloaadaicklfaa
