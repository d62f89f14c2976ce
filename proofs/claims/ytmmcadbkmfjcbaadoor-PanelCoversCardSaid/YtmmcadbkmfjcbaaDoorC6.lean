/-
  Plan: the walk.
-/
import Derived.Test.YtmmcadbkmfjcbaaDoorC5
import Derived.Test.YtmmcadbkmfjcbaaDoorU0
import Derived.Maps.AppendAt
namespace Go.Proofs.YtmmcadbkmfjcbaaDoor
open Go.RowKit
attribute [local go_sem] alloc_drewN setCell_drewN wide_fn Oper.semAt_some

/-- What a loop over the pieces keeps: the box, its rectangles, and nothing else turned. -/
def PlanI (w0 : World) (h n1 : Nat) (pre : List R) (W : World) : Prop := ∃ v, W.heap[h]? = some (.cells #[v] 46 (0, 0)) ∧ RectsAt W n1 v pre ∧ Ext Nope w0 W ∧ pre.length ≤ 70

theorem alloc2_old (a : World) (o o' : Obj) : ((a.alloc o).alloc o').heap[a.heap.size]? = some o := (heap_alloc_old _ _ _ (by simp)).trans (heap_alloc_new _ _)
theorem keep_new2 {a w5 : World} {o o' : Obj} (e5 : Ext Nope ((a.alloc o).alloc o').drew w5) : w5.heap[a.heap.size + 1]? = some o' :=
  (e5.block _ (show a.heap.size + 1 < ((a.alloc o).alloc o').heap.size by simp) (fun z => z)).trans (heap_alloc_at _ _ _ (by simp))
theorem keep_old {a w5 : World} {o o' : Obj} (e5 : Ext Nope ((a.alloc o).alloc o').drew w5) : w5.heap[a.heap.size]? = some o :=
  (e5.block _ (show a.heap.size < ((a.alloc o).alloc o').heap.size by simp; omega) (fun z => z)).trans (alloc2_old _ _ _)
theorem ext_set0 {a b : World} (h : Ext Nope a b) (o : Nat) (u : Value) : Ext Nope a (b.setCell ⟨a.heap.size, o, none⟩ u) := h.setCell _ _ (fun z => absurd z (by omega)) _
theorem ext_set1 {a b : World} (h : Ext Nope a b) (o : Nat) (u : Value) : Ext Nope a (b.setCell ⟨a.heap.size + 1, o, none⟩ u) := h.setCell _ _ (fun z => absurd z (by omega)) _
theorem alloc2_new (a : World) (o o' : Obj) : ((a.alloc o).alloc o').heap[a.heap.size + 1]? = some o' := heap_alloc_at _ _ _ (by simp)
def boxLen (h : Nat) (w : World) : Nat := match w.cell? ⟨h, 0, none⟩ with | some (.slice _ n _) => n | _ => 0
theorem rects_slice {w : World} {base : Nat} {v : Value} {rs : List R} (h : RectsAt w base v rs) (h0 : 0 < rs.length) : ∃ g cap, v = .slice (some ⟨g, 0, none⟩) rs.length cap := by
  obtain ⟨_, ⟨_, hn⟩ | ⟨g, cap, cur, hv, _⟩⟩ := h
  · omega
  · exact ⟨g, cap, hv⟩
theorem thin_step {many f : Nat} {rs : List R} (h : many < rs.length) : thinA 4096 many (f + 1) rs = thinA 4096 many f (joinA rs (bestA 4096 rs (rs.length - 1)).1) := by rw [thinA, if_pos h]
theorem thin_end {many f : Nat} {rs : List R} (h : rs.length ≤ many) : thinA 4096 many f rs = rs := by
  cases f with
  | zero => rfl
  | succ f => rw [thinA, if_neg (by omega)]

set_option maxRecDepth 100000 in
set_option maxHeartbeats 4000000 in
theorem plan_ok {w : World} {v1 v2 : Value} {xs ys : List Nat} (n many : Nat) (hr1 : Reads w v1 xs) (hr2 : Reads w v2 ys) (hT : Tab w) (hux : U64 xs) (huy : U64 ys) (hn1 : 1 ≤ n) (hn : n ≤ 64) (hlen : xs.length = ys.length) (hl : xs.length ≤ 64) (hm : 1 ≤ many) :
    Calls Tryd.prog 22 #[v1, v2, .int .i64 n, .int .i64 many] w fun e w' => ∃ v, e = .returned v ∧ RectsAt w' w.heap.size v (thinA 4096 many 65 (piecesF n xs ys)) ∧ Ext Nope w w' := by
  have HR := toHid (show _ ∧ _ ∧ _ from ⟨hr1, hr2, hT⟩)
  obtain ⟨av1, cap1, hv1, _⟩ := hr1
  obtain ⟨av2, cap2, hv2, _⟩ := hr2
  obtain ⟨m, HN⟩ : ∃ m, Hid (xs.length = m) := ⟨_, rfl⟩
  have HN2 := toHid (hlen.symm.trans HN.out)
  rw [HN.out] at hv1 hl
  rw [HN2.out] at hv2
  subst hv1 hv2
  clear hT hlen
  refine (callsIn_wide (n := 3)).1 (callsIn_of_wp_marks Tryd.func22 rfl trivial ?_)
  simp only [Tryd.ntmps22, List.size_toArray, List.length_cons, List.length_nil, Nat.reduceAdd, Nat.reduceSub, Array.replicate_succ, Array.replicate_zero, List.push_toArray, List.append_toArray, List.nil_append, List.cons_append]
  refine wpIn_wide.2 ?_
  go_wp2_with (go_at_call 39; refine (pieces_calls _ _ n _ rfl rfl).mono ?_; rintro e w' ⟨rfl, rfl⟩)
  obtain ⟨h, hh⟩ : ∃ h, w.heap.size = h := ⟨_, rfl⟩
  rw [hh]
  obtain ⟨wB, hB⟩ : ∃ wB, ((((w.alloc (.cells #[.slice none 0 0] 46)).alloc (.cells #[.slice av1 m cap1] 32)).alloc (.cells #[.slice av2 m cap2] 32)).alloc (.cells #[.int .i64 n] 3)) = wB := ⟨_, rfl⟩
  have hsB : wB.heap.size = h + 4 := by rw [← hB]; simp [hh]
  have eB : Ext Nope w wB := by rw [← hB]; exact ((((Ext.refl _ _).alloc _).alloc _).alloc _).alloc _
  have b0 : wB.heap[h]? = some (.cells #[.slice none 0 0] 46 (0, 0)) := by rw [← hB, ← hh]; exact (heap_alloc_old _ _ _ (by simp; try omega)).trans ((heap_alloc_old _ _ _ (by simp; try omega)).trans ((heap_alloc_old _ _ _ (by simp)).trans (heap_alloc_new _ _)))
  have b1 : wB.heap[h + 1]? = some (.cells #[.slice av1 m cap1] 32 (0, 0)) := by rw [← hB, ← hh]; exact (heap_alloc_old _ _ _ (by simp; try omega)).trans ((heap_alloc_old _ _ _ (by simp)).trans (heap_alloc_at _ _ _ (by simp)))
  have b2 : wB.heap[h + 1 + 1]? = some (.cells #[.slice av2 m cap2] 32 (0, 0)) := by rw [← hB, ← hh]; exact (heap_alloc_old _ _ _ (by simp)).trans (heap_alloc_at _ _ _ (by simp))
  have b3 : wB.heap[h + 1 + 1 + 1]? = some (.cells #[.int .i64 n] 3 (0, 0)) := by rw [← hB, ← hh]; exact heap_alloc_at _ _ _ (by simp)
  rw [hB]
  clear hB
  refine wp_rangeOwn (gf := 53) (lb := #[.pointer (some ⟨h + 1, 0, none⟩), .pointer (some ⟨h + 1 + 1, 0, none⟩), .pointer (some ⟨h + 1 + 1 + 1, 0, none⟩)]) rfl rfl (enters_of Tryd.func53 (by kernel_rfl) rfl) h (by omega) (PlanI w h (h + 7)) (piecesF n xs ys) ?hseq ?hI ?h0 ?hround ?hdone
  case hseq =>
    intro J W1 e1 hs1 hJ hY hJ0
    have P1 := pieces1_calls (w := W1) (wB.heap.size + 1) (h + 1) (h + 1 + 1) (h + 1 + 1 + 1) n (.slice av1 m cap1) (.slice av2 m cap2) xs ys (fun k => k = h ∨ k = wB.heap.size + 1) J hn1 hn (by rw [HN.out, HN2.out]) (by rw [HN.out]; exact hl) hux huy (fun k hk => by omega) ⟨av1, cap1, by rw [HN.out]⟩ ⟨av2, cap2, by rw [HN2.out]⟩
      (fun W hE => by
        have eW : Ext Nope w W := (ext0 eB e1).trans hE (fun i hi z => by omega)
        exact ⟨cell_of_blk ((hE.block _ (lt_of_heap ((e1.block _ (lt_of_heap b1) (fun z => z)).trans b1)) (by omega)).trans ((e1.block _ (lt_of_heap b1) (fun z => z)).trans b1)) 0,
          cell_of_blk ((hE.block _ (lt_of_heap ((e1.block _ (lt_of_heap b2) (fun z => z)).trans b2)) (by omega)).trans ((e1.block _ (lt_of_heap b2) (fun z => z)).trans b2)) 0,
          cell_of_blk ((hE.block _ (lt_of_heap ((e1.block _ (lt_of_heap b3) (fun z => z)).trans b3)) (by omega)).trans ((e1.block _ (lt_of_heap b3) (fun z => z)).trans b3)) 0, HR.out.1.ext0 eW, HR.out.2.1.ext0 eW, HR.out.2.2.ext0 eW⟩) hJ hY hJ0
    exact P1
  case hI =>
    rintro pre A A' ⟨v, h1, h2, h3, h4⟩ he
    exact ⟨v, (he.block h (lt_of_heap h1) (by omega)).trans h1, own_ext h2 he (fun g hg => by have := (World.ownsRow.lt h2 g hg).1; omega), h3.trans he (fun i hi z => by omega), h4⟩
  case h0 =>
    intro W1 e1 hs1
    exact ⟨_, (e1.block _ (lt_of_heap b0) (fun z => z)).trans b0, World.ownsRow_nil _ _ _ _, ext0 eB e1, by simp⟩
  case hround =>
    rintro pre x W ⟨v, h1, h2, h3, h4⟩ hsz hlen
    gi_wp2
    refine ⟨(Ext.refl _ _).alloc _, ?_⟩
    intro w2 e2 hs2 hb2
    have x1 : w2.heap[W.heap.size]? = some (.cells (rCells x) 31 (0, 0)) := (hb2 _ (by omega)).trans (heap_alloc_new _ _)
    have x2 : w2.heap[h]? = some (.cells #[v] 46 (0, 0)) := (hb2 _ (by omega)).trans ((heap_alloc_old _ _ _ (lt_of_heap h1)).trans h1)
    have x3 : RectsAt w2 (h + 7) v pre := own_ext h2 e2 (fun g hg => by have := (World.ownsRow.lt h2 g hg).1; omega)
    have e3 : Ext Nope w w2 := h3.trans e2 (fun i hi z => by omega)
    have hsz2 : h + 7 ≤ w2.heap.size := by have := e2.size; omega
    clear e2 hs2 hb2 h1 h2 h3
    obtain ⟨i0, hi, hz0, hz1, hz2⟩ := info_parts info31
    obtain ⟨r0, r1, r2, r3⟩ := r_cells x1
    have c0 : w2.cell? ⟨h, 0, none⟩ = some v := cell_of_blk x2 0
    have hbW : W.heap.size < w2.heap.size := lt_of_heap x1
    have hhW : h < w2.heap.size := lt_of_heap x2
    have hne : ¬ W.heap.size = h := by omega
    gi_wp2_with (gi_at_builtin; refine wpListIn_append_own _ rfl _ _ 46 rfl (h + 7) 31 i0 _ 4 32 Tryd.underlying46 hi hz0 hz1 hz2 rfl (by decide) _ _ _ rfl (World.ownsRow.alloc x3 _) ⟨w2.heap.size, 0, none⟩ 1 1 (rectCells [x]) rfl rfl (rCells_at (heap_alloc_new _ _)) (rectCells_oneCell _) (by unfold maxLen; omega) (by omega) (by simp; omega) ?_; intro v' w3 hown' hgrow _; obtain ⟨g', cap', rfl⟩ := ownsRow_succ hown'; have E3 : Ext (fun k => h + 7 ≤ k) w2 w3 := ((Ext.refl _ _).alloc _).grown hgrow (fun k hk _ => (World.ownsRow.lt x3 k hk).1); have x4 := (E3.block h hhW (by omega)).trans x2; have c4 : w3.cell? ⟨h, 0, none⟩ = some v := cell_of_blk x4 0; have f4 : w3.frozen? ⟨h, 0, none⟩ = false := free_of_blk x4 0; clear hgrow)
    have x5 : RectsAt w3 (h + 7) (.slice (some ⟨g', 0, none⟩) (pre.length + 1) cap') (pre ++ [x]) := RectsAt.snoc hown' rfl
    have hgg := (World.ownsRow.lt x5 g' rfl).1
    refine ⟨⟨_, heap_setCell_eq _ _ _ _ _ _ _ x4, own_ext x5 ((Ext.refl (fun k => k = h) w3).setCell _ _ (fun _ => rfl) _) (fun g hg => ?_), ?_, ?_⟩, ?_⟩
    · have := (World.ownsRow.lt x5 g hg).1
      omega
    · exact (e3.trans E3 (fun i hi z => by omega)).setCell _ _ (fun z => by omega) _
    · simp; omega
    · exact (E3.mono (fun k hk => .inr (by omega))).setCell _ _ (fun _ => .inl rfl) _
  case hdone =>
    rintro W ⟨v, h1, h2, h3, h4⟩ hD
    rw [hsB] at hD ⊢
    clear b0 b1 b2 b3 eB hsB
    clear wB
    obtain ⟨rs0, hrs0⟩ : ∃ rs0, piecesF n xs ys = rs0 := ⟨_, rfl⟩
    have hok : ∀ r ∈ rs0, okR 64 r := fun r hr => ((piecesF_spec n xs ys hn).2 r (by rw [hrs0]; exact hr)).mono (by rw [HN.out]; omega)
    have hlen0 : rs0.length ≤ 65 := by have := (piecesF_spec n xs ys hn).1; rw [hrs0, HN.out] at this; omega
    rw [hrs0] at h2 h4
    have HRS := toHid hrs0
    clear hrs0
    go_wp2
    go_loopw [] (fun wr => ∃ (f : Nat) (rs : List R) (v : Value), thinA 4096 many f rs = thinA 4096 many 65 rs0 ∧ rs.length ≤ f ∧ f ≤ 65 ∧ (∀ r ∈ rs, okR 64 r) ∧ wr.heap[h]? = some (.cells #[v] 46 (0, 0)) ∧ RectsAt wr (h + 7) v rs ∧ Ext Nope w wr ∧ wr.heap[h + 4]? = some (.deferred (some []))) (fun wr => boxLen h wr)
    case atStart => exact ⟨65, rs0, v, rfl, hlen0, Nat.le_refl _, hok, h1, h2, h3, hD⟩
    case round =>
      obtain ⟨f, rs, vr, hth, hf, hf65, hokr, g1, g2, g3, gD⟩ := hrel
      clear h1 h2 h3 h4 hD hok hlen0
      rename World => wo
      have c0 : wo.cell? ⟨h, 0, none⟩ = some vr := cell_of_blk g1 0
      have f0 : wo.frozen? ⟨h, 0, none⟩ = false := free_of_blk g1 0
      by_cases hlm : many < rs.length
      · obtain ⟨g, cap, rfl⟩ := rects_slice g2 (by omega)
        obtain ⟨q, HQ⟩ : ∃ q, Hid (rs.length = q) := ⟨_, rfl⟩
        have HTH := toHid hth
        rw [HQ.out] at hlm hf c0 g1
        have HG := toHid (show _ ∧ _ ∧ _ ∧ _ from ⟨g1, g2, g3, gD⟩)
        clear hth g1 g2 g3 gD
        go_wp2
        clear c0
        go_loopw [54, 11, 12] (fun i bk lk wv => ∃ k : Nat, i = .int .i64 k ∧ bk = .int .i64 ((bestA 4096 rs k).1 : Nat) ∧ lk = .int .i64 (bestA 4096 rs k).2 ∧ k ≤ q - 1 ∧ Ext Nope wo wv) (fun i _ _ _ => q - 1 - (intOf i).toNat)
        case atStart => exact ⟨0, rfl, rfl, rfl, Nat.zero_le _, Ext.refl _ _⟩
        case round =>
          obtain ⟨k, rfl, rfl, rfl, hk, hE⟩ := hrel
          by_cases hkq : k < q - 1
          · obtain ⟨G1, G2, G3, GD⟩ := HG.out
            have c1 : wr.cell? ⟨h, 0, none⟩ = some (.slice (some ⟨g, 0, none⟩) q cap) := cell_of_blk ((hE.block _ (lt_of_heap G1) (fun z => z)).trans G1) 0
            have G4 : RectsAt wr (h + 7) (.slice (some ⟨g, 0, none⟩) rs.length cap) rs := own_ext G2 hE (fun _ _ z => z)
            obtain ⟨p, p1, p2, e1, e2⟩ := nth_split (xs := rs) (k := k) (by rw [HQ.out]; omega)
            obtain ⟨r, p3, e3⟩ : ∃ r p3, p2 = r :: p3 := by
              cases p2 with
              | nil => rw [e1] at HQ; have := HQ.out; simp at this; omega
              | cons r p3 => exact ⟨r, p3, rfl⟩
            subst e3
            have d1 := rect_cells G4 e1
            have d2 := rect_cells (a := p1 ++ [p]) (o := r) (b := p3) G4 (by rw [e1]; simp)
            rw [e2] at d1
            rw [show (p1 ++ [p]).length = k + 1 by simp [e2]] at d2
            have hp : rs.getD k zeroR = p := by rw [List.getD_eq_getElem?_getD, e1, ← e2]; simp
            have hr : rs.getD (k + 1) zeroR = r := by rw [List.getD_eq_getElem?_getD, e1, ← e2]; simp
            have hps : p.small := (hokr p (by rw [e1]; simp)).small (by omega)
            have hrs : r.small := (hokr r (by rw [e1]; simp)).small (by omega)
            have hbs : (bothR p r).small := (okR_both (hokr p (by rw [e1]; simp)) (hokr r (by rw [e1]; simp))).small (by omega)
            have hnx : bestA 4096 rs (k + 1) = if moreA p r < (bestA 4096 rs k).2 then (k, moreA p r) else bestA 4096 rs k := by rw [bestA, hp, hr]
            obtain ⟨st, hst⟩ : ∃ st, bestA 4096 rs k = st := ⟨_, rfl⟩
            rw [hst] at hnx ⊢
            obtain ⟨bk, lk⟩ := st
            have HNX := toHid hnx
            clear hnx hst hp hr e1 e2 G1 G2 G3 GD
            obtain ⟨i0, i1, i2, i3⟩ := d1
            obtain ⟨j0, j1, j2, j3⟩ := d2
            have SK : Hid (∀ w', Ext Nope wr w' → w'.cell? ⟨h, 0, none⟩ = some (.slice (some ⟨g, 0, none⟩) q cap) ∧
              (w'.cell? ⟨g, k * 4, none⟩ = some (.int .i64 p.x) ∧ w'.cell? ⟨g, k * 4 + 1, none⟩ = some (.int .i64 p.y) ∧ w'.cell? ⟨g, k * 4 + 2, none⟩ = some (.int .i64 p.w) ∧ w'.cell? ⟨g, k * 4 + 3, none⟩ = some (.int .i64 p.h)) ∧
              (w'.cell? ⟨g, (k + 1) * 4, none⟩ = some (.int .i64 r.x) ∧ w'.cell? ⟨g, (k + 1) * 4 + 1, none⟩ = some (.int .i64 r.y) ∧ w'.cell? ⟨g, (k + 1) * 4 + 2, none⟩ = some (.int .i64 r.w) ∧ w'.cell? ⟨g, (k + 1) * 4 + 3, none⟩ = some (.int .i64 r.h))) := fun w' e => by
              have kp : ∀ b o u, wr.cell? ⟨b, o, none⟩ = some u → w'.cell? ⟨b, o, none⟩ = some u := fun b o u hu => (World.cell?_of_block (w := wr) (a := ⟨b, o, none⟩) (e.block b (World.block_lt_of_cell? _ _ hu) (fun z => z))).trans hu
              exact ⟨kp _ _ _ c1, ⟨kp _ _ _ i0, kp _ _ _ i1, kp _ _ _ i2, kp _ _ _ i3⟩, ⟨kp _ _ _ j0, kp _ _ _ j1, kp _ _ _ j2, kp _ _ _ j3⟩⟩
            clear c1 i0 i1 i2 i3 j0 j1 j2 j3 G4
            go_upto_region 12 with fail
            have s1 : IntKind.i64.wrap ((k : Int) + 1) = (k : Int) + 1 := IntWalk.i64_in _ (by omega)
            have s2 : (0 : Int) ≤ (k : Int) := by omega
            have s3 : (k : Int) < (q : Int) := by omega
            have s4 : (0 : Int) ≤ (k : Int) + 1 := by omega
            have s5 : (k : Int) + 1 < (q : Int) := by omega
            have s6 : ((k : Int) + 1).toNat = k + 1 := by omega
            go_region_held3 (fun w' => w'.cell? ⟨h, 0, none⟩ = some (.slice (some ⟨g, 0, none⟩) q cap) ∧
              (w'.cell? ⟨g, k * 4, none⟩ = some (.int .i64 p.x) ∧ w'.cell? ⟨g, k * 4 + 1, none⟩ = some (.int .i64 p.y) ∧ w'.cell? ⟨g, k * 4 + 2, none⟩ = some (.int .i64 p.w) ∧ w'.cell? ⟨g, k * 4 + 3, none⟩ = some (.int .i64 p.h)) ∧
              (w'.cell? ⟨g, (k + 1) * 4, none⟩ = some (.int .i64 r.x) ∧ w'.cell? ⟨g, (k + 1) * 4 + 1, none⟩ = some (.int .i64 r.y) ∧ w'.cell? ⟨g, (k + 1) * 4 + 2, none⟩ = some (.int .i64 r.w) ∧ w'.cell? ⟨g, (k + 1) * 4 + 3, none⟩ = some (.int .i64 r.h)))
              ((refine SK.out _ ?_; (repeat (first | exact Ext.refl _ _ | refine Ext.drew ?_ | refine Ext.alloc ?_ _ | refine ext_set0 ?_ _ _ | refine ext_set1 ?_ _ _ | refine ext0 ?_ e5))))
              (first
                | (go_at_call 40; refine (around_calls p r _ _ hps hrs ?_).mono ?_; (focus ((first | exact heap_alloc_new _ _ | exact alloc2_old _ _ _ | exact alloc2_new _ _ _); done)); rintro e w5 ⟨rfl, e5⟩; (first
                  | (have k5 : w5.heap[wr.heap.size + 1]? = some (.cells (rCells ⟨0, 0, 0, 0⟩) 31 (0, 0)) := keep_new2 e5; obtain ⟨z0, z1, z2, z3⟩ := r_cells k5; obtain ⟨y0, y1, y2, y3⟩ := free_r k5; have hlt5 := lt_of_heap k5)
                  | (have k5 : w5.heap[wr.heap.size]? = some (.cells (rCells ⟨0, 0, 0, 0⟩) 31 (0, 0)) := keep_old e5; obtain ⟨z0, z1, z2, z3⟩ := r_cells k5; obtain ⟨y0, y1, y2, y3⟩ := free_r k5; have hlt5 := lt_of_heap k5)
                  | skip)))
            all_goals clear s1 s2 s3 s4 s5 s6
            · have K6 := heap_alloc_new w5 (.cells #[.int .i64 (bothR p r).x, .int .i64 (bothR p r).y, .int .i64 (bothR p r).w, .int .i64 (bothR p r).h] 31)
              have E6 : Ext Nope wr (w5.alloc (.cells #[.int .i64 (bothR p r).x, .int .i64 (bothR p r).y, .int .i64 (bothR p r).w, .int .i64 (bothR p r).h] 31)) := (ext0 (((Ext.refl _ _).alloc _).drew) e5).alloc _
              generalize (w5.alloc (.cells #[.int .i64 (bothR p r).x, .int .i64 (bothR p r).y, .int .i64 (bothR p r).w, .int .i64 (bothR p r).h] 31)) = w6 at *
              generalize w5.heap.size = cb at *
              clear e5
              rename_i hH
              obtain ⟨c1, ⟨i0, i1, i2, i3⟩, ⟨j0, j1, j2, j3⟩⟩ := hH
              obtain ⟨br, hbr⟩ : ∃ br, bothR p r = br := ⟨_, rfl⟩
              have hmo : moreA p r = br.w * br.h - p.w * p.h - r.w * r.h := by unfold moreA areaR; rw [hbr]
              rw [hbr] at K6 hbs
              rw [hmo] at HNX
              obtain ⟨b0, b1, b2, b3⟩ := r_cells (o := br) K6
              obtain ⟨m1, m2⟩ := area_bounds hps
              obtain ⟨m3, m4⟩ := area_bounds hrs
              obtain ⟨m5, m6⟩ := area_bounds hbs
              obtain ⟨A1, hA1⟩ : ∃ A1, p.w * p.h = A1 := ⟨_, rfl⟩
              obtain ⟨A2, hA2⟩ : ∃ A2, r.w * r.h = A2 := ⟨_, rfl⟩
              obtain ⟨A3, hA3⟩ : ∃ A3, br.w * br.h = A3 := ⟨_, rfl⟩
              rw [hA1] at m1 m2 HNX
              rw [hA2] at m3 m4 HNX
              rw [hA3] at m5 m6 HNX
              have s1 : IntKind.i64.wrap ((k : Int) + 1) = (k : Int) + 1 := IntWalk.i64_in _ (by omega)
              have s2 : (0 : Int) ≤ (k : Int) := by omega
              have s3 : (k : Int) < (q : Int) := by omega
              have s4 : (0 : Int) ≤ (k : Int) + 1 := by omega
              have s5 : (k : Int) + 1 < (q : Int) := by omega
              have s6 : ((k : Int) + 1).toNat = k + 1 := by omega
              have t1 : IntKind.i64.wrap A1 = A1 := IntWalk.i64_in _ (by omega)
              have t2 : IntKind.i64.wrap A2 = A2 := IntWalk.i64_in _ (by omega)
              have t3 : IntKind.i64.wrap A3 = A3 := IntWalk.i64_in _ (by omega)
              have t4 : IntKind.i64.wrap (A3 - A1) = A3 - A1 := IntWalk.i64_in _ (by omega)
              have t5 : IntKind.i64.wrap (A3 - A1 - A2) = A3 - A1 - A2 := IntWalk.i64_in _ (by omega)
              clear SK hbr hmo K6
              go_wp2
              go_quiet (fail)
              clear s1 s2 s3 s4 s5 s6 t1 t2 t3 t4 t5 c1 i0 i1 i2 i3 j0 j1 j2 j3 b0 b1 b2 b3
              have E7 : Ext Nope wo (w6.drewN nq) := (ext0 hE E6).drewN _
              by_cases hlt : A3 - A1 - A2 < lk
              · have hnx := HNX.out
                rw [if_pos hlt] at hnx
                have HNX2 := toHid hnx
                clear hnx
                go_wp2
                go_roundw
                case rel => exact ⟨k + 1, by go_num, by rw [HNX2.out], by rw [HNX2.out], by omega, E7⟩
                case measure => simp [intOf]; omega
              · have hnx := HNX.out
                rw [if_neg hlt] at hnx
                have HNX2 := toHid hnx
                clear hnx
                go_wp2
                go_roundw
                case rel => exact ⟨k + 1, by go_num, by rw [HNX2.out], by rw [HNX2.out], by omega, E7⟩
                case measure => simp [intOf]; omega
            · have K6 : ((((w5.setCell ⟨wr.heap.size + 1, 0, none⟩ (.int .i64 (bothR p r).x)).setCell ⟨wr.heap.size + 1, 1, none⟩ (.int .i64 (bothR p r).y)).setCell ⟨wr.heap.size + 1, 2, none⟩ (.int .i64 (bothR p r).w)).setCell ⟨wr.heap.size + 1, 3, none⟩ (.int .i64 (bothR p r).h)).heap[wr.heap.size + 1]? = some (.cells (rCells (bothR p r)) 31 (0, 0)) := putR_heap (bothR p r) k5
              have E6 : Ext Nope wr ((((w5.setCell ⟨wr.heap.size + 1, 0, none⟩ (.int .i64 (bothR p r).x)).setCell ⟨wr.heap.size + 1, 1, none⟩ (.int .i64 (bothR p r).y)).setCell ⟨wr.heap.size + 1, 2, none⟩ (.int .i64 (bothR p r).w)).setCell ⟨wr.heap.size + 1, 3, none⟩ (.int .i64 (bothR p r).h)) := ext_set1 (ext_set1 (ext_set1 (ext_set1 (ext0 ((((Ext.refl _ _).alloc _).alloc _).drew) e5) _ _) _ _) _ _) _ _
              generalize ((((w5.setCell ⟨wr.heap.size + 1, 0, none⟩ (.int .i64 (bothR p r).x)).setCell ⟨wr.heap.size + 1, 1, none⟩ (.int .i64 (bothR p r).y)).setCell ⟨wr.heap.size + 1, 2, none⟩ (.int .i64 (bothR p r).w)).setCell ⟨wr.heap.size + 1, 3, none⟩ (.int .i64 (bothR p r).h)) = w6 at *
              generalize hcb : wr.heap.size + 1 = cb at *
              clear e5 hcb
              rename_i hH
              obtain ⟨c1, ⟨i0, i1, i2, i3⟩, ⟨j0, j1, j2, j3⟩⟩ := hH
              obtain ⟨br, hbr⟩ : ∃ br, bothR p r = br := ⟨_, rfl⟩
              have hmo : moreA p r = br.w * br.h - p.w * p.h - r.w * r.h := by unfold moreA areaR; rw [hbr]
              rw [hbr] at K6 hbs
              rw [hmo] at HNX
              obtain ⟨b0, b1, b2, b3⟩ := r_cells (o := br) K6
              obtain ⟨m1, m2⟩ := area_bounds hps
              obtain ⟨m3, m4⟩ := area_bounds hrs
              obtain ⟨m5, m6⟩ := area_bounds hbs
              obtain ⟨A1, hA1⟩ : ∃ A1, p.w * p.h = A1 := ⟨_, rfl⟩
              obtain ⟨A2, hA2⟩ : ∃ A2, r.w * r.h = A2 := ⟨_, rfl⟩
              obtain ⟨A3, hA3⟩ : ∃ A3, br.w * br.h = A3 := ⟨_, rfl⟩
              rw [hA1] at m1 m2 HNX
              rw [hA2] at m3 m4 HNX
              rw [hA3] at m5 m6 HNX
              have s1 : IntKind.i64.wrap ((k : Int) + 1) = (k : Int) + 1 := IntWalk.i64_in _ (by omega)
              have s2 : (0 : Int) ≤ (k : Int) := by omega
              have s3 : (k : Int) < (q : Int) := by omega
              have s4 : (0 : Int) ≤ (k : Int) + 1 := by omega
              have s5 : (k : Int) + 1 < (q : Int) := by omega
              have s6 : ((k : Int) + 1).toNat = k + 1 := by omega
              have t1 : IntKind.i64.wrap A1 = A1 := IntWalk.i64_in _ (by omega)
              have t2 : IntKind.i64.wrap A2 = A2 := IntWalk.i64_in _ (by omega)
              have t3 : IntKind.i64.wrap A3 = A3 := IntWalk.i64_in _ (by omega)
              have t4 : IntKind.i64.wrap (A3 - A1) = A3 - A1 := IntWalk.i64_in _ (by omega)
              have t5 : IntKind.i64.wrap (A3 - A1 - A2) = A3 - A1 - A2 := IntWalk.i64_in _ (by omega)
              clear SK hbr hmo K6
              go_wp2
              go_quiet (fail)
              clear s1 s2 s3 s4 s5 s6 t1 t2 t3 t4 t5 c1 i0 i1 i2 i3 j0 j1 j2 j3 b0 b1 b2 b3
              have E7 : Ext Nope wo (w6.drewN nq) := (ext0 hE E6).drewN _
              by_cases hlt : A3 - A1 - A2 < lk
              · have hnx := HNX.out
                rw [if_pos hlt] at hnx
                have HNX2 := toHid hnx
                clear hnx
                go_wp2
                go_roundw
                case rel => exact ⟨k + 1, by go_num, by rw [HNX2.out], by rw [HNX2.out], by omega, E7⟩
                case measure => simp [intOf]; omega
              · have hnx := HNX.out
                rw [if_neg hlt] at hnx
                have HNX2 := toHid hnx
                clear hnx
                go_wp2
                go_roundw
                case rel => exact ⟨k + 1, by go_num, by rw [HNX2.out], by rw [HNX2.out], by omega, E7⟩
                case measure => simp [intOf]; omega
            · have K6 : ((((w5.setCell ⟨wr.heap.size, 0, none⟩ (.int .i64 (bothR p r).x)).setCell ⟨wr.heap.size, 1, none⟩ (.int .i64 (bothR p r).y)).setCell ⟨wr.heap.size, 2, none⟩ (.int .i64 (bothR p r).w)).setCell ⟨wr.heap.size, 3, none⟩ (.int .i64 (bothR p r).h)).heap[wr.heap.size]? = some (.cells (rCells (bothR p r)) 31 (0, 0)) := putR_heap (bothR p r) k5
              have E6 : Ext Nope wr ((((w5.setCell ⟨wr.heap.size, 0, none⟩ (.int .i64 (bothR p r).x)).setCell ⟨wr.heap.size, 1, none⟩ (.int .i64 (bothR p r).y)).setCell ⟨wr.heap.size, 2, none⟩ (.int .i64 (bothR p r).w)).setCell ⟨wr.heap.size, 3, none⟩ (.int .i64 (bothR p r).h)) := ext_set0 (ext_set0 (ext_set0 (ext_set0 (ext0 ((((Ext.refl _ _).alloc _).alloc _).drew) e5) _ _) _ _) _ _) _ _
              generalize ((((w5.setCell ⟨wr.heap.size, 0, none⟩ (.int .i64 (bothR p r).x)).setCell ⟨wr.heap.size, 1, none⟩ (.int .i64 (bothR p r).y)).setCell ⟨wr.heap.size, 2, none⟩ (.int .i64 (bothR p r).w)).setCell ⟨wr.heap.size, 3, none⟩ (.int .i64 (bothR p r).h)) = w6 at *
              generalize hcb : wr.heap.size = cb at *
              clear e5 hcb
              rename_i hH
              obtain ⟨c1, ⟨i0, i1, i2, i3⟩, ⟨j0, j1, j2, j3⟩⟩ := hH
              obtain ⟨br, hbr⟩ : ∃ br, bothR p r = br := ⟨_, rfl⟩
              have hmo : moreA p r = br.w * br.h - p.w * p.h - r.w * r.h := by unfold moreA areaR; rw [hbr]
              rw [hbr] at K6 hbs
              rw [hmo] at HNX
              obtain ⟨b0, b1, b2, b3⟩ := r_cells (o := br) K6
              obtain ⟨m1, m2⟩ := area_bounds hps
              obtain ⟨m3, m4⟩ := area_bounds hrs
              obtain ⟨m5, m6⟩ := area_bounds hbs
              obtain ⟨A1, hA1⟩ : ∃ A1, p.w * p.h = A1 := ⟨_, rfl⟩
              obtain ⟨A2, hA2⟩ : ∃ A2, r.w * r.h = A2 := ⟨_, rfl⟩
              obtain ⟨A3, hA3⟩ : ∃ A3, br.w * br.h = A3 := ⟨_, rfl⟩
              rw [hA1] at m1 m2 HNX
              rw [hA2] at m3 m4 HNX
              rw [hA3] at m5 m6 HNX
              have s1 : IntKind.i64.wrap ((k : Int) + 1) = (k : Int) + 1 := IntWalk.i64_in _ (by omega)
              have s2 : (0 : Int) ≤ (k : Int) := by omega
              have s3 : (k : Int) < (q : Int) := by omega
              have s4 : (0 : Int) ≤ (k : Int) + 1 := by omega
              have s5 : (k : Int) + 1 < (q : Int) := by omega
              have s6 : ((k : Int) + 1).toNat = k + 1 := by omega
              have t1 : IntKind.i64.wrap A1 = A1 := IntWalk.i64_in _ (by omega)
              have t2 : IntKind.i64.wrap A2 = A2 := IntWalk.i64_in _ (by omega)
              have t3 : IntKind.i64.wrap A3 = A3 := IntWalk.i64_in _ (by omega)
              have t4 : IntKind.i64.wrap (A3 - A1) = A3 - A1 := IntWalk.i64_in _ (by omega)
              have t5 : IntKind.i64.wrap (A3 - A1 - A2) = A3 - A1 - A2 := IntWalk.i64_in _ (by omega)
              clear SK hbr hmo K6
              go_wp2
              go_quiet (fail)
              clear s1 s2 s3 s4 s5 s6 t1 t2 t3 t4 t5 c1 i0 i1 i2 i3 j0 j1 j2 j3 b0 b1 b2 b3
              have E7 : Ext Nope wo (w6.drewN nq) := (ext0 hE E6).drewN _
              by_cases hlt : A3 - A1 - A2 < lk
              · have hnx := HNX.out
                rw [if_pos hlt] at hnx
                have HNX2 := toHid hnx
                clear hnx
                go_wp2
                go_roundw
                case rel => exact ⟨k + 1, by go_num, by rw [HNX2.out], by rw [HNX2.out], by omega, E7⟩
                case measure => simp [intOf]; omega
              · have hnx := HNX.out
                rw [if_neg hlt] at hnx
                have HNX2 := toHid hnx
                clear hnx
                go_wp2
                go_roundw
                case rel => exact ⟨k + 1, by go_num, by rw [HNX2.out], by rw [HNX2.out], by omega, E7⟩
                case measure => simp [intOf]; omega
          · have hkk : k = q - 1 := by omega
            subst hkk
            obtain ⟨f', rfl⟩ : ∃ f', f = f' + 1 := ⟨f - 1, by omega⟩
            have hst := HTH.out
            rw [thin_step (by rw [HQ.out]; exact hlm), HQ.out] at hst
            have hbl := bestA_le 4096 rs (q - 1)
            obtain ⟨st, hb⟩ : ∃ st, bestA 4096 rs (q - 1) = st := ⟨_, rfl⟩
            rw [hb] at hst hbl ⊢
            obtain ⟨bk, lk⟩ := st
            simp only at hst hbl
            have hb2 : bk + 2 ≤ q := by omega
            have hjl := joinA_length (rs := rs) (b := bk) (by rw [HQ.out]; exact hb2)
            have hjo := joinA_ok (b := bk) (by rw [HQ.out]; exact hb2) hokr
            have HST := toHid (show _ ∧ _ ∧ _ from ⟨hst, hjl, hjo⟩)
            clear hst hjl hjo hb hbl
            obtain ⟨G1, G2, G3, GD⟩ := HG.out
            have G5 := (hE.block _ (lt_of_heap G1) (fun z => z)).trans G1
            have c1 : wr.cell? ⟨h, 0, none⟩ = some (.slice (some ⟨g, 0, none⟩) q cap) := cell_of_blk G5 0
            have G4 : RectsAt wr (h + 7) (.slice (some ⟨g, 0, none⟩) rs.length cap) rs := own_ext G2 hE (fun _ _ z => z)
            have hgh : h + 7 ≤ g := (World.ownsRow.lt G4 g rfl).1
            have hhw : h < wr.heap.size := lt_of_heap G5
            have hgw : g < wr.heap.size := (World.ownsRow.lt G4 g rfl).2
            obtain ⟨p, p1, p2, e1, e2⟩ := nth_split (xs := rs) (k := bk) (by rw [HQ.out]; omega)
            obtain ⟨r, p3, e3⟩ : ∃ r p3, p2 = r :: p3 := by
              cases p2 with
              | nil => rw [e1] at HQ; have := HQ.out; simp at this; omega
              | cons r p3 => exact ⟨r, p3, rfl⟩
            subst e3
            have d1 := rect_cells G4 e1
            have d2 := rect_cells (a := p1 ++ [p]) (o := r) (b := p3) G4 (by rw [e1]; simp)
            rw [e2] at d1
            rw [show (p1 ++ [p]).length = bk + 1 by simp [e2]] at d2
            have hp : rs.getD bk zeroR = p := by rw [List.getD_eq_getElem?_getD, e1, ← e2]; simp
            have hr : rs.getD (bk + 1) zeroR = r := by rw [List.getD_eq_getElem?_getD, e1, ← e2]; simp
            have hps : p.small := (hokr p (by rw [e1]; simp)).small (by omega)
            have hrs : r.small := (hokr r (by rw [e1]; simp)).small (by omega)
            have hjj : joinA rs bk = rs.take bk ++ bothR p r :: rs.drop (bk + 2) := by unfold joinA; rw [hp, hr]
            rw [hjj] at HST
            clear hjj hp hr e1 e2 G1 G2 G3 GD
            obtain ⟨i0, i1, i2, i3⟩ := d1
            obtain ⟨j0, j1, j2, j3⟩ := d2
            rw [HQ.out] at G4
            have HG4 := toHid G4
            clear G4
            go_upto_region 17 with fail
            have s1 : IntKind.i64.wrap ((bk : Int) + 1) = (bk : Int) + 1 := IntWalk.i64_in _ (by omega)
            have s7 : IntKind.i64.wrap ((bk : Int) + 2) = (bk : Int) + 2 := IntWalk.i64_in _ (by omega)
            have s2 : (0 : Int) ≤ (bk : Int) := by omega
            have s3 : (bk : Int) < (q : Int) := by omega
            have s4 : (0 : Int) ≤ (bk : Int) + 1 := by omega
            have s5 : (bk : Int) + 1 < (q : Int) := by omega
            have s6 : ((bk : Int) + 1).toNat = bk + 1 := by omega
            have hq1000 : q ≤ 1000 := by omega
            have SK : Hid (∀ w', Ext Nope wr w' → w'.cell? ⟨h, 0, none⟩ = some (.slice (some ⟨g, 0, none⟩) q cap) ∧ (w'.cell? ⟨g, bk * 4, none⟩ = some (.int .i64 p.x) ∧ w'.cell? ⟨g, bk * 4 + 1, none⟩ = some (.int .i64 p.y) ∧ w'.cell? ⟨g, bk * 4 + 2, none⟩ = some (.int .i64 p.w) ∧ w'.cell? ⟨g, bk * 4 + 3, none⟩ = some (.int .i64 p.h)) ∧ (w'.cell? ⟨g, (bk + 1) * 4, none⟩ = some (.int .i64 r.x) ∧ w'.cell? ⟨g, (bk + 1) * 4 + 1, none⟩ = some (.int .i64 r.y) ∧ w'.cell? ⟨g, (bk + 1) * 4 + 2, none⟩ = some (.int .i64 r.w) ∧ w'.cell? ⟨g, (bk + 1) * 4 + 3, none⟩ = some (.int .i64 r.h))) := fun w' e => by
              have kp : ∀ b o u, wr.cell? ⟨b, o, none⟩ = some u → w'.cell? ⟨b, o, none⟩ = some u := fun b o u hu => (World.cell?_of_block (w := wr) (a := ⟨b, o, none⟩) (e.block b (World.block_lt_of_cell? _ _ hu) (fun z => z))).trans hu
              exact ⟨kp _ _ _ c1, ⟨kp _ _ _ i0, kp _ _ _ i1, kp _ _ _ i2, kp _ _ _ i3⟩, ⟨kp _ _ _ j0, kp _ _ _ j1, kp _ _ _ j2, kp _ _ _ j3⟩⟩
            clear i0 i1 i2 i3 j0 j1 j2 j3 c1
            refine wp_region_noPanic ?_
            refine wp_region_head 16 (fun w' => Ext Nope wr w' ∧ w'.cell? ⟨h, 0, none⟩ = some (.slice (some ⟨g, 0, none⟩) q cap) ∧ (w'.cell? ⟨g, bk * 4, none⟩ = some (.int .i64 p.x) ∧ w'.cell? ⟨g, bk * 4 + 1, none⟩ = some (.int .i64 p.y) ∧ w'.cell? ⟨g, bk * 4 + 2, none⟩ = some (.int .i64 p.w) ∧ w'.cell? ⟨g, bk * 4 + 3, none⟩ = some (.int .i64 p.h)) ∧ (w'.cell? ⟨g, (bk + 1) * 4, none⟩ = some (.int .i64 r.x) ∧ w'.cell? ⟨g, (bk + 1) * 4 + 1, none⟩ = some (.int .i64 r.y) ∧ w'.cell? ⟨g, (bk + 1) * 4 + 2, none⟩ = some (.int .i64 r.w) ∧ w'.cell? ⟨g, (bk + 1) * 4 + 3, none⟩ = some (.int .i64 r.h))) (by kernel_rfl) (by kernel_rfl) ⟨(Ext.refl _ _).drew, SK.out _ (Ext.refl _ _).drew⟩ (fun hO hHeld => ?_)
            refine wpAnyT_takeD (i := 0) (d := some 105) (v := ?_) hO rfl rfl (by kernel_rfl) (fun _ _ _ h => h) (Or.inl ⟨by rfl, ?_⟩) (by exact hHeld) ?_
            rotate_left
            · intro w' hSw
              obtain ⟨_, z0, ⟨z1, z2, z3, z4⟩, ⟨z5, z6, z7, z8⟩⟩ := hSw
              go_simp
              try (with_reducible rfl)
            try simp only [Act.put, List.setIfInBounds_toArray, List.set_cons_zero, List.set_cons_succ]
            refine wpAnyT_takeD (i := 1) (d := some 106) (v := ?_) hO rfl rfl (by kernel_rfl) (fun _ _ _ h => h) (Or.inl ⟨by rfl, ?_⟩) (by exact hHeld) ?_
            rotate_left
            · intro w' hSw
              obtain ⟨_, z0, ⟨z1, z2, z3, z4⟩, ⟨z5, z6, z7, z8⟩⟩ := hSw
              go_simp
              try (with_reducible rfl)
            try simp only [Act.put, List.setIfInBounds_toArray, List.set_cons_zero, List.set_cons_succ]
            refine wpAnyT_takeD (i := 2) (d := some 107) (v := ?_) hO rfl rfl (by kernel_rfl) (fun _ _ _ h => h) (Or.inl ⟨by rfl, ?_⟩) (by exact hHeld) ?_
            rotate_left
            · intro w' hSw
              obtain ⟨_, z0, ⟨z1, z2, z3, z4⟩, ⟨z5, z6, z7, z8⟩⟩ := hSw
              go_simp
              try (with_reducible rfl)
            try simp only [Act.put, List.setIfInBounds_toArray, List.set_cons_zero, List.set_cons_succ]
            refine wpAnyT_takeD (i := 3) (d := some 108) (v := ?_) hO rfl rfl (by kernel_rfl) (fun _ _ _ h => h) (Or.inl ⟨by rfl, ?_⟩) (by exact hHeld) ?_
            rotate_left
            · intro w' hSw
              obtain ⟨_, z0, ⟨z1, z2, z3, z4⟩, ⟨z5, z6, z7, z8⟩⟩ := hSw
              go_simp
              try (with_reducible rfl)
            try simp only [Act.put, List.setIfInBounds_toArray, List.set_cons_zero, List.set_cons_succ]
            refine wpAnyT_takeD (i := 4) (d := some 109) (v := ?_) hO rfl rfl (by kernel_rfl) (fun _ _ _ h => h) (Or.inl ⟨by rfl, ?_⟩) (by exact hHeld) ?_
            rotate_left
            · intro w' hSw
              obtain ⟨_, z0, ⟨z1, z2, z3, z4⟩, ⟨z5, z6, z7, z8⟩⟩ := hSw
              go_simp
              try (with_reducible rfl)
            try simp only [Act.put, List.setIfInBounds_toArray, List.set_cons_zero, List.set_cons_succ]
            refine wpAnyT_takeD (i := 5) (d := some 110) (v := ?_) hO rfl rfl (by kernel_rfl) (fun _ _ _ h => h) (Or.inl ⟨by rfl, ?_⟩) (by exact hHeld) ?_
            rotate_left
            · intro w' hSw
              obtain ⟨_, z0, ⟨z1, z2, z3, z4⟩, ⟨z5, z6, z7, z8⟩⟩ := hSw
              go_simp
              try (with_reducible rfl)
            try simp only [Act.put, List.setIfInBounds_toArray, List.set_cons_zero, List.set_cons_succ]
            refine wpAnyT_takeD (i := 6) (d := some 111) (v := ?_) hO rfl rfl (by kernel_rfl) (fun _ _ _ h => h) (Or.inl ⟨by rfl, ?_⟩) (by exact hHeld) ?_
            rotate_left
            · intro w' hSw
              obtain ⟨_, z0, ⟨z1, z2, z3, z4⟩, ⟨z5, z6, z7, z8⟩⟩ := hSw
              go_simp
              try (with_reducible rfl)
            try simp only [Act.put, List.setIfInBounds_toArray, List.set_cons_zero, List.set_cons_succ]
            refine wpAnyT_takeD (i := 7) (d := some 112) (v := ?_) hO rfl rfl (by kernel_rfl) (fun _ _ _ h => h) (Or.inl ⟨by rfl, ?_⟩) (by exact hHeld) ?_
            rotate_left
            · intro w' hSw
              obtain ⟨_, z0, ⟨z1, z2, z3, z4⟩, ⟨z5, z6, z7, z8⟩⟩ := hSw
              go_simp
              try (with_reducible rfl)
            try simp only [Act.put, List.setIfInBounds_toArray, List.set_cons_zero, List.set_cons_succ]
            refine wpAnyT_takeD (i := 8) (d := some 113) (v := ?_) hO rfl rfl (by kernel_rfl) (fun _ _ _ h => h) (Or.inl ⟨by rfl, ?_⟩) (by exact hHeld) ?_
            rotate_left
            · intro w' hSw
              obtain ⟨_, z0, ⟨z1, z2, z3, z4⟩, ⟨z5, z6, z7, z8⟩⟩ := hSw
              go_simp
              try (with_reducible rfl)
            try simp only [Act.put, List.setIfInBounds_toArray, List.set_cons_zero, List.set_cons_succ]
            refine wpAnyT_takeD (i := 9) (d := some 114) (v := ?_) hO rfl rfl (by kernel_rfl) (fun _ _ _ h => h) (Or.inl ⟨by rfl, ?_⟩) (by exact hHeld) ?_
            rotate_left
            · intro w' hSw
              obtain ⟨_, z0, ⟨z1, z2, z3, z4⟩, ⟨z5, z6, z7, z8⟩⟩ := hSw
              go_simp
              try (with_reducible rfl)
            try simp only [Act.put, List.setIfInBounds_toArray, List.set_cons_zero, List.set_cons_succ]
            refine wpAnyT_takeD (i := 10) (d := some 115) (v := ?_) hO rfl rfl (by kernel_rfl) (fun _ _ _ h => h) (Or.inl ⟨by rfl, ?_⟩) (by exact hHeld) ?_
            rotate_left
            · intro w' hSw
              obtain ⟨_, z0, ⟨z1, z2, z3, z4⟩, ⟨z5, z6, z7, z8⟩⟩ := hSw
              go_simp
              try (with_reducible rfl)
            try simp only [Act.put, List.setIfInBounds_toArray, List.set_cons_zero, List.set_cons_succ]
            refine wpAnyT_takeD (i := 11) (d := some 116) (v := ?_) hO rfl rfl (by kernel_rfl) (fun _ _ _ h => h) (Or.inl ⟨by rfl, ?_⟩) (by exact hHeld) ?_
            rotate_left
            · intro w' hSw
              obtain ⟨_, z0, ⟨z1, z2, z3, z4⟩, ⟨z5, z6, z7, z8⟩⟩ := hSw
              go_simp
              try (with_reducible rfl)
            try simp only [Act.put, List.setIfInBounds_toArray, List.set_cons_zero, List.set_cons_succ]
            refine wpAnyT_takeD (i := 12) (d := some 117) (v := ?_) hO rfl rfl (by kernel_rfl) (fun _ _ _ h => h) (Or.inl ⟨by rfl, ?_⟩) (by exact hHeld) ?_
            rotate_left
            · intro w' hSw
              obtain ⟨_, z0, ⟨z1, z2, z3, z4⟩, ⟨z5, z6, z7, z8⟩⟩ := hSw
              go_simp
              try (with_reducible rfl)
            try simp only [Act.put, List.setIfInBounds_toArray, List.set_cons_zero, List.set_cons_succ]
            clear hHeld
            refine wpAnyT_one (i := 13) rfl (by kernel_rfl) (by rfl) (fun K hK => ?_)
            go_simp
            have e1 : Ext Nope wr (wr.alloc (.cells #[.int .i64 p.x, .int .i64 p.y, .int .i64 p.w, .int .i64 p.h, .int .i64 r.x, .int .i64 r.y, .int .i64 r.w, .int .i64 r.h] 31)).drew := ((Ext.refl _ _).alloc _).drew
            refine hK.out _ _ ⟨e1, SK.out _ e1⟩ (fun _ => ?_)
            clear hK K e1
            try simp only [Act.put, List.setIfInBounds_toArray, List.set_cons_zero, List.set_cons_succ]
            refine wpAnyT_one (i := 14) rfl (by kernel_rfl) (by rfl) (fun K hK => ?_)
            go_simp
            refine (around_calls p r _ _ hps hrs ?_).mono ?_
            · exact heap_alloc_new _ _
            rintro e w5 ⟨rfl, e5⟩
            have x1 : Ext Nope wr w5 := ext0 (((Ext.refl _ _).alloc _).drew) e5
            clear e5
            try go_simp
            refine hK.out _ _ ⟨x1, SK.out _ x1⟩ (fun _ => ?_)
            clear hK K
            try simp only [Act.put, List.setIfInBounds_toArray, List.set_cons_zero, List.set_cons_succ]
            refine wpAnyT_one (i := 15) rfl (by kernel_rfl) (by rfl) (fun K hK => ?_)
            go_simp
            have x2 : Ext Nope wr (w5.alloc (.cells #[.int .i64 (bothR p r).x, .int .i64 (bothR p r).y, .int .i64 (bothR p r).w, .int .i64 (bothR p r).h] 31)) := x1.alloc _
            refine hK.out _ _ ⟨x2, SK.out _ x2⟩ (fun _ => ?_)
            clear hK K
            try simp only [Act.put, List.setIfInBounds_toArray, List.set_cons_zero, List.set_cons_succ]
            refine wpAnyT_done (by kernel_rfl) ⟨by kernel_rfl, ?_⟩
            simp only [List.drop_succ_cons, List.drop_zero]
            have x3 : RectsAt (w5.alloc (.cells #[.int .i64 (bothR p r).x, .int .i64 (bothR p r).y, .int .i64 (bothR p r).w, .int .i64 (bothR p r).h] 31)) (h + 7) (.slice (some ⟨g, 0, none⟩) q cap) rs := own_ext HG4.out x2 (fun _ _ z => z)
            have hq1000 : q ≤ 1000 := by omega
            have HX := toHid x2
            clear x2
            go_wp2_with (go_at_call 41; refine (replace_calls x3 hb2 hq1000 (heap_alloc_new _ _)).mono ?_; rintro e w7 ⟨rfl, hr7, e7⟩; have x7 := ext1 HX.out e7; have x8 := (x7.block _ hhw (by omega)).trans G5; have x9 := cell_of_blk x8 0; have xa := free_of_blk x8 0; clear x3 e7)
            refine NoPanic.normal ?_
            go_wp2
            obtain ⟨T1, T2, T3⟩ := HST.out
            obtain ⟨G1, G2, G3, GD⟩ := HG.out
            have xs : Ext (fun k => k = h) w7 (w7.setCell ⟨h, 0, none⟩ (.slice (some ⟨g, 0, none⟩) (q - 1) cap)) := (Ext.refl (fun k => k = h) w7).setCell h 0 (fun _ => rfl) _
            have y1 := heap_setCell_eq w7 h 0 (.slice (some ⟨g, 0, none⟩) (q - 1) cap) _ _ _ x8
            have hd4 : h + 4 < wo.heap.size := lt_of_heap GD
            have yd := (xs.block (h + 4) (by have := x7.size; have := hE.size; omega) (by omega)).trans ((x7.block (h + 4) (by have := hE.size; omega) (by omega)).trans ((hE.block (h + 4) hd4 (fun z => z)).trans GD))
            refine ⟨⟨f', _, _, T1, ?_, by omega, T3, y1, own_ext hr7 xs (fun g' hg' z => by have := (World.ownsRow.lt hr7 g' hg').1; omega), ?_, yd⟩, ?_⟩
            · rw [T2, HQ.out]; omega
            · exact (((ext0 G3 hE).trans x7 (fun i hi z => by omega)).trans xs (fun i hi z => by omega))
            · unfold boxLen
              rw [cell_of_blk G1 0, cell_of_blk y1 0]
              simp
              omega
      · have hle : (rs.length : Int) ≤ (many : Int) := by omega
        rw [thin_end (by omega)] at hth
        have hfin : thinA 4096 many 65 (piecesF n xs ys) = rs := by rw [HRS.out, ← hth]
        have HF := toHid hfin
        clear hfin hth
        obtain ⟨q, HQ⟩ : ∃ q, Hid (rs.length = q) := ⟨_, rfl⟩
        obtain ⟨av, cp, hvr, _⟩ := own_gen g2
        rw [HQ.out] at hle hvr
        subst hvr
        have G2 := toHid g2
        clear g2 hlm hf
        go_wp2
        refine ⟨by simp, .inl ⟨_, _, rfl, run_takeDeferred gD, ?_⟩⟩
        refine ⟨_, results_tmp rfl _ _ _, _, rfl, ?_, ext_put g3 _ _ (fun z => absurd z (by omega))⟩
        rw [HF.out]
        exact (own_ext (own_base G2.out (fun g hg => by have := (World.ownsRow.lt G2.out g hg).1; omega)) (ext_put (Ext.refl (fun k => k = h + 4) _) _ _ (fun _ => rfl)) (fun g hg => by have := (World.ownsRow.lt G2.out g hg).1; omega))
end Go.Proofs.YtmmcadbkmfjcbaaDoor
