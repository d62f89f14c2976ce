/-
  What MemoryOldest computes: true.
-/
import Derived.Test.YtkloaadaicklfaaQ0
import Derived.Deep.DeepCutAuto
import Derived.Deep.CutBlock
import Derived.IntWalk
namespace Go.Proofs.Ytkloaadaicklfaa
open Go.RowKit
attribute [local go_sem] alloc_drewN setCell_drewN

theorem keep2 {wa wb : World} {S : Nat → Prop} {X : Nat} {f g : Int} (e : Ext S wa wb) (hX : ¬ S X) (lX : X < wa.heap.size) (h : wa.cell? ⟨X, 0, none⟩ = some (.int .u8 f) ∧ wa.cell? ⟨X, 1, none⟩ = some (.int .u8 g)) :
    wb.cell? ⟨X, 0, none⟩ = some (.int .u8 f) ∧ wb.cell? ⟨X, 1, none⟩ = some (.int .u8 g) := by
  have hx := e.block X lX hX
  exact ⟨(World.cell?_of_block (w := wa) hx).trans h.1, (World.cell?_of_block (w := wa) hx).trans h.2⟩

set_option maxRecDepth 100000 in
set_option maxHeartbeats 8000000 in
theorem oldest_calls (n : Int) (n0 : 0 ≤ n) (n1 : n ≤ 255) (f g : Int) (f0 : 0 ≤ f) (f1 : f ≤ 255) (g0 : 0 ≤ g) (g1 : g ≤ 255) (W : World) (a : Option Addr) (len cap : Nat) (ha : ActsAt W a len) (hlen : len ≤ 9223372036854775807) :
    Calls Try.prog 5 #[.int .u8 n, .slice a len cap, .agg #[.int .u8 f, .int .u8 g]] W fun e w' => e = .returned (.bool true) ∧ Ext Nope W w' := by
  have m0 : 0 ≤ n % 64 := by omega
  have m1 : n % 64 ≤ 1073741824 := by omega
  have m2 : 0 ≤ f % 9 := by omega
  have m3 : f % 9 ≤ 1000 := by omega
  have m4 : 0 ≤ g % 64 := by omega
  have m5 : g % 64 ≤ 63 := by omega
  have hmm := @run_makeMap Try.prog
  go_enter Try.func5, Try.ntmps5
  go_wp2_with fail
  refine (sanity_calls _).mono ?_
  rintro e w1 ⟨rfl, e1⟩
  have hb1 : w1.heap[W.heap.size]? = some (.cells #[.int .u8 f, .int .u8 g] 49 (0, 0)) := (e1.block _ (by simp) (fun z => z)).trans (heap_alloc_new W _)
  have E1 : Ext Nope W w1 := ext0 ((Ext.refl _ _).alloc _) e1
  have ha1 := ha.ext E1
  clear e1 ha
  go_wp2_with fail
  refine (filled_calls (n % 64) m0 m1 w1 a len cap ha1 hlen).mono ?_
  rintro e w2 ⟨bm, br, xs, rfl, hB, hxl, h7⟩
  have E2 := ext0 E1 hB.under
  have hbA : W.heap.size < w1.heap.size := lt_of_heap hb1
  have hb2 : w2.heap[W.heap.size]? = some (.cells #[.int .u8 f, .int .u8 g] 49 (0, 0)) := (hB.under.block _ hbA (fun z => z)).trans hb1
  have c0 := cell_of_blk hb2 0
  have c1 := cell_of_blk hb2 1
  simp only [List.getElem?_toArray, List.getElem?_cons_zero, List.getElem?_cons_succ] at c0 c1
  have hbA2 := lt_of_heap hb2
  clear ha1 hb1 hb2 h7
  go_upto_region 6 with fail
  go_cut [12, 13] (fun s12 s13 wx => ∃ X, s12 = ptr X ∧ s13 = .int .i64 (g % 64) ∧ wx.heap[X]? = some (.cells (ownCells (keyA (f % 9))) 34 (0, 0)) ∧ w2.heap.size ≤ X ∧ Ext Nope w2 wx)
  case first =>
    have wf : IntKind.i64.wrap f = f := IntWalk.i64_in _ (by omega)
    have wg : IntKind.i64.wrap g = g := IntWalk.i64_in _ (by omega)
    have tf : f.tmod 9 = f % 9 := Int.tmod_eq_emod_of_nonneg f0
    have tg : g.tmod 64 = g % 64 := Int.tmod_eq_emod_of_nonneg g0
    have HS : ∀ w', Ext Nope w2 w' → w'.cell? ⟨W.heap.size, 0, none⟩ = some (.int .u8 f) ∧ w'.cell? ⟨W.heap.size, 1, none⟩ = some (.int .u8 g) := fun w' e => keep2 e (fun z => z) hbA2 ⟨c0, c1⟩
    go_region_held3 (fun w' => w'.cell? ⟨W.heap.size, 0, none⟩ = some (.int .u8 f) ∧ w'.cell? ⟨W.heap.size, 1, none⟩ = some (.int .u8 g)) (first | go_keep | exact HS _ (by repeat (first | exact Ext.refl _ _ | exact ext0 (by repeat (first | exact Ext.refl _ _ | refine Ext.drew ?_ | refine Ext.alloc ?_ _)) e3 | refine Ext.setCell ?_ _ _ (fun hk => absurd hk (Nat.lt_irrefl _)) _ | refine Ext.drew ?_ | refine Ext.alloc ?_ _)))
      (first | (go_at_call 13; refine (key_calls (f % 9) _ m2 m3).mono ?_; rintro e w3 ⟨rfl, e3⟩; try (have kz := (e3.block w2.heap.size (by simp) (fun z => z)).trans (heap_alloc_new w2 (.cells #[.int .i64 0, .int .i64 0, .int .i64 0, .int .i64 0] 34 (0, 0))); have kz0 : w3.cell? ⟨w2.heap.size, 0, none⟩ = some (.int .i64 0) := cell_of_blk kz 0; have kz1 : w3.cell? ⟨w2.heap.size, 1, none⟩ = some (.int .i64 0) := cell_of_blk kz 1; have kz2 : w3.cell? ⟨w2.heap.size, 2, none⟩ = some (.int .i64 0) := cell_of_blk kz 2; have kz3 : w3.cell? ⟨w2.heap.size, 3, none⟩ = some (.int .i64 0) := cell_of_blk kz 3; have kf0 : w3.frozen? ⟨w2.heap.size, 0, none⟩ = false := free_of_blk kz 0; have kf1 : w3.frozen? ⟨w2.heap.size, 1, none⟩ = false := free_of_blk kz 1; have kf2 : w3.frozen? ⟨w2.heap.size, 2, none⟩ = false := free_of_blk kz 2; have kf3 : w3.frozen? ⟨w2.heap.size, 3, none⟩ = false := free_of_blk kz 3)))
    all_goals
      go_wp2_with fail
      go_meet
      first
        | (have kz' := kz; exact ⟨w2.heap.size, rfl, rfl, (heap_setCell_eq _ _ _ _ _ _ _ (heap_setCell_eq _ _ _ _ _ _ _ (heap_setCell_eq _ _ _ _ _ _ _ (heap_setCell_eq _ _ _ _ _ _ _ kz)))).trans rfl, Nat.le_refl _, (by repeat (first | exact Ext.refl _ _ | exact ext0 (by repeat (first | exact Ext.refl _ _ | refine Ext.drew ?_ | refine Ext.alloc ?_ _)) e3 | refine Ext.setCell ?_ _ _ (fun hk => absurd hk (Nat.lt_irrefl _)) _ | refine Ext.drew ?_ | refine Ext.alloc ?_ _))⟩)
        | exact ⟨w3.heap.size, rfl, rfl, heap_alloc_new _ _, (show Ext Nope w2 w3 from ext0 (by repeat (first | exact Ext.refl _ _ | refine Ext.drew ?_ | refine Ext.alloc ?_ _)) e3).size, (by repeat (first | exact Ext.refl _ _ | exact ext0 (by repeat (first | exact Ext.refl _ _ | refine Ext.drew ?_ | refine Ext.alloc ?_ _)) e3 | refine Ext.setCell ?_ _ _ (fun hk => absurd hk (Nat.lt_irrefl _)) _ | refine Ext.drew ?_ | refine Ext.alloc ?_ _))⟩
  case rest =>
    obtain ⟨X, rfl, rfl, KX, hX2, e3⟩ := hcut
    have hB3 := hB.ext e3
    have E3 := ext0 E2 e3
    have hM3 := (hB.toMAp (w0 := W) E1.size).also e3
    have hXA : Also (fun b => b < w1.heap.size) w2 wc X := .inr ⟨hX2, lt_of_heap KX⟩
    clear hB E2 e3 c0 c1 hX2
    go_upto_region 8 with fail
    have K4 : MapAs ((wc.alloc (.map #[] 0)).alloc (.map #[] 0)) wc.heap.size [] := ⟨#[], 0, (heap_alloc_old _ _ _ (by simp)).trans (heap_alloc_new _ _), rfl⟩
    have K5 : MapAs ((wc.alloc (.map #[] 0)).alloc (.map #[] 0)) (wc.heap.size + 1) [] := ⟨#[], 0, (by simpa using heap_alloc_new (wc.alloc (.map #[] 0)) (.map #[] 0)), rfl⟩
    have e4 : Ext Nope wc ((wc.alloc (.map #[] 0)).alloc (.map #[] 0)) := ((Ext.refl _ _).alloc _).alloc _
    have hM4 := hM3.also e4
    have hA1 : Also (Also (fun b => b < w1.heap.size) w2 wc) wc ((wc.alloc (.map #[] 0)).alloc (.map #[] 0)) wc.heap.size := .inr ⟨Nat.le_refl _, by simp; omega⟩
    have hA2 : Also (Also (fun b => b < w1.heap.size) w2 wc) wc ((wc.alloc (.map #[] 0)).alloc (.map #[] 0)) (wc.heap.size + 1) := .inr ⟨by omega, by simp⟩
    have hXA4 : Also (Also (fun b => b < w1.heap.size) w2 wc) wc ((wc.alloc (.map #[] 0)).alloc (.map #[] 0)) X := .inl hXA
    have E4 := ext0 E3 e4
    have KX4 := (e4.block X (lt_of_heap KX) (fun z => z)).trans KX
    have hr0 : W.heap.size ≤ wc.heap.size := E3.size
    have hXr : X < wc.heap.size := lt_of_heap KX
    obtain ⟨F, G, hb3, hF, hG, _⟩ := hB3
    obtain ⟨v, hrep, hRF⟩ := hb3.ref
    have hbl : ∀ b, RFoot br v b → b < wc.heap.size := fun b hb => hb3.gl b (hRF b hb)
    have hrep4 := hrep.ext e4 (fun z => z) (fun _ _ z => z)
    have hKO := toHid2 hb3.ok
    clear hrep hRF hG hF hb3 hM3 hXA E3 e4 KX hmm
    generalize hr1 : wc.heap.size = r at *
    generalize Also (Also (fun b => b < w1.heap.size) w2 wc) wc ((wc.alloc (.map #[] 0)).alloc (.map #[] 0)) = A at *
    generalize (wc.alloc (.map #[] 0)).alloc (.map #[] 0) = w4 at *
    clear hr1
    have c2 := hrep4.c2
    have hbr := hbl br (.inl rfl)
    have hbr4 := lt_of_heap hrep4.self
    obtain ⟨av, cp, hv, hcp, hmx, hav⟩ := hrep4.gen
    obtain ⟨m, HN⟩ : ∃ m, Hid (xs.length = m) := ⟨_, rfl⟩
    rw [HN.out] at hv hcp hav
    subst hv
    have HAV := toHid2 hav
    have hm60 : m ≤ 60 := by rw [← HN.out]; exact hxl
    have HM4 := toHid2 hM4
    have HR4 := toHid2 hrep4
    have HKX := toHid2 KX4
    have HH : Hid (MapAs w4 r [] ∧ MapAs w4 (r + 1) []) := ⟨K4, K5⟩
    have HBL := toHid2 hbl
    clear hav hM4 hrep4 KX4 K4 K5 hbl
    go_upto_block 0 with fail
    go_cut [] (fun wx => ∃ l1 l2, MapAs wx r l1 ∧ SizeMap l1 (szK xs) ∧ MapAs wx (r + 1) l2 ∧ PinMap l2 (pnK xs) ∧ Ext (fun k => k = r ∨ k = r + 1) w4 wx)
    case first =>
      go_wp2
      go_loopw [60] (fun i wv => ∃ (j : Nat) (l1 l2 : List (Own × Value)), i = .int .i64 j ∧ j ≤ m ∧ MapAs wv r l1 ∧ SizeMap l1 (szK (xs.take j)) ∧ MapAs wv (r + 1) l2 ∧ PinMap l2 (pnK (xs.take j)) ∧ Ext (fun k => k = r ∨ k = r + 1) w4 wv) (fun i _ => m - (intOf i).toNat)
      case atStart => exact ⟨0, [], [], rfl, by omega, HH.out.1, ⟨by simp, fun o => by simp [mget_nil, szK, getK]⟩, HH.out.2, ⟨by simp, fun o => by simp [mget_nil, pnK, getK]⟩, Ext.refl _ _⟩
      case round =>
        obtain ⟨j, l1, l2, rfl, hj, hm1, hs1, hm2, hs2, hEv⟩ := hrel
        clear c2
        by_cases hjm : j < m
        · obtain ⟨gg, rfl⟩ := HAV.out (by omega)
          obtain ⟨x, a1, a2, hx, hxl2⟩ := nth_split (xs := xs) (k := j) (by rw [HN.out]; exact hjm)
          have hggr : gg < r := HBL.out gg (.inr rfl)
          have hcells := (HR4.out.ext hEv (fun z => by omega) (fun k hk => by simp only [Value.ownBlock, Option.some.injEq] at hk; subst hk; intro z; omega)).list
          rw [hx] at hcells
          obtain ⟨y0, y1, y2, y3, y4, y5⟩ := kept_cells hcells
          rw [hxl2] at y0 y1 y2 y3 y4 y5
          obtain ⟨ht1, ht2⟩ := take_len hx hxl2
          have q1 := szK_snoc hKO.out.keys hx
          have q2 := pnK_snoc hKO.out.keys hx
          rw [← ht2, ← ht1] at q1 q2
          have Q1 := toHid2 q1
          have Q2 := toHid2 q2
          have hgl := World.block_lt_of_cell? _ _ y0
          clear hcells hx hxl2 ht1 ht2 q1 q2
          go_upto_region 11 with fail
          have K17 : RX (wr.alloc (.cells (keptRow x) 55 (0, 0))) wr.heap.size x := heap_alloc_new _ _
          have m1' := hm1.of (w' := wr.alloc (.cells (keptRow x) 55 (0, 0))) (heap_alloc_old _ _ _ hm1.lt)
          have m2' := hm2.of (w' := wr.alloc (.cells (keptRow x) 55 (0, 0))) (heap_alloc_old _ _ _ hm2.lt)
          have e17 : Ext (fun k => k = r ∨ k = r + 1) w4 (wr.alloc (.cells (keptRow x) 55 (0, 0))) := hEv.alloc _
          have h17r : wr.heap.size ≠ r ∧ wr.heap.size ≠ r + 1 := by have := hm2.lt; omega
          have e17' := toHid2 e17
          clear hEv hm1 hm2 y0 y1 y2 y3 y4 y5 e17
          generalize wr.alloc (.cells (keptRow x) 55 (0, 0)) = w17 at *
          generalize wr.heap.size = X17 at *
          obtain ⟨wu1, hup1, mu1, eu1⟩ := updB (w := w17.drew) (m1'.of rfl) x.key (.int .i64 x.size)
          obtain ⟨wu2, hup2, mu2, eu2⟩ := updP (m2'.ext (show Ext (fun k => k = r) w17 wu1 from (Ext.refl _ w17).drew.trans eu1 (fun _ _ z => z)) (fun z => by omega)) x.key (.bool x.pinned)
          have mu1' := mu1.ext eu2 (fun z => by omega)
          have E17 : Ext (fun k => k = r) w17 wu1 := (Ext.refl _ w17).drew.trans eu1 (fun _ _ z => z)
          have E18 : Ext (fun k => k = r ∨ k = r + 1) w17 wu2 := (E17.mono (fun _ z => .inl z)).trans eu2 (fun _ _ z => .inr z)
          have HS : ∀ w' (S : Nat → Prop), Ext S w17 w' → ¬ S X17 → w'.cell? ⟨X17, 0, none⟩ = some (.int .i64 x.key.f) ∧ w'.cell? ⟨X17, 1, none⟩ = some (.int .i64 x.key.k) ∧ w'.cell? ⟨X17, 2, none⟩ = some (.int .i64 x.key.n) ∧ w'.cell? ⟨X17, 3, none⟩ = some (.int .i64 x.key.r) ∧ w'.cell? ⟨X17, 4, none⟩ = some (.int .i64 x.size) ∧ w'.cell? ⟨X17, 5, none⟩ = some (.bool x.pinned) :=
            fun w' S e hS => RX.cells ((e.block X17 (lt_of_heap K17) hS).trans K17)
          have hx17 := lt_of_heap K17
          have hE19 := toHid2 (e17'.out.trans E18 (fun _ _ z => z))
          have HM := toHid2 (show MapAs wu2 r (mput l1 x.key (.int .i64 x.size)) ∧ SizeMap (mput l1 x.key (.int .i64 x.size)) (szK (xs.take (j + 1))) ∧ MapAs wu2 (r + 1) (mput l2 x.key (.bool x.pinned)) ∧ PinMap (mput l2 x.key (.bool x.pinned)) (pnK (xs.take (j + 1))) from ⟨mu1', (hs1.put x.key x.size).congr Q1.out, mu2, (hs2.put x.key x.pinned).congr Q2.out⟩)
          clear m1' m2' mu1 mu1' mu2 eu1 eu2 K17 hs1 hs2 e17'
          go_region_held3 (fun w' => w'.cell? ⟨X17, 0, none⟩ = some (.int .i64 x.key.f) ∧ w'.cell? ⟨X17, 1, none⟩ = some (.int .i64 x.key.k) ∧ w'.cell? ⟨X17, 2, none⟩ = some (.int .i64 x.key.n) ∧ w'.cell? ⟨X17, 3, none⟩ = some (.int .i64 x.key.r) ∧ w'.cell? ⟨X17, 4, none⟩ = some (.int .i64 x.size) ∧ w'.cell? ⟨X17, 5, none⟩ = some (.bool x.pinned))
            (first | exact HS _ Nope (Ext.refl _ _).drew (fun z => z) | exact HS _ _ E17 h17r.1 | exact HS _ _ E18 (by omega)) (first | fail)
          all_goals
            clear HS E17 E18 hup1 hup2 hx17
            go_wp2
            go_roundw
            case rel => exact ⟨j + 1, _, _, by go_num, by omega, HM.out.1, HM.out.2.1, HM.out.2.2.1, HM.out.2.2.2, hE19.out⟩
            case measure => simp [intOf]; omega
        · have hjj : j = m := by omega
          subst hjj
          have hx0 : xs.take j = xs := by rw [← HN.out, List.take_length]
          rw [hx0] at hs1 hs2
          clear hx0
          go_wp2
          go_meet
          exact ⟨l1, l2, hm1, hs1, hm2, hs2, hEv⟩
    case rest =>
      obtain ⟨l1, l2, hm1, hs1, hm2, hs2, e5⟩ := hcut
      have hM5 := HM4.out.ext e5 (fun b hb => by rcases hb with hb | hb <;> (rw [hb]; assumption))
      have E5 : Ext Nope W wc := E4.trans (S' := fun k => k = r ∨ k = r + 1) e5 (fun i hi he => by omega)
      have KX5 := (e5.block X (lt_of_heap HKX.out) (by omega)).trans HKX.out
      have hKo := hM5.ok
      have m6 : 0 ≤ n % 64 ∧ n % 64 ≤ 63 := by omega
      clear HM4 HR4 HKX HH HBL HAV E4 e5 c2 hbr hbr4 hr0 hcp hmx hbA hbA2 E1
      generalize hwc : wc = w5 at *
      clear hwc
      generalize keyA (f % 9) = o at *
      generalize g % 64 = s at *
      generalize hB0 : n % 64 = B at *
      go_wp2_with fail
      refine (map_list hM5 (by omega)).mono ?_
      rintro e w6 ⟨vb, rfl, hvb, e6⟩
      have hM6 := hM5.also e6
      have hvb6 : KeysOf (Also A w5 w6) w6 vb (keysK xs) := .of hvb fun b h1 h2 => .inr ⟨h1, h2⟩
      have KX6 := (e6.block X (lt_of_heap KX5) (fun z => z)).trans KX5
      have hm16 := hm1.ext e6 (fun z => z)
      have hm26 := hm2.ext e6 (fun z => z)
      have E6 := ext0 E5 e6
      have hX6 : Also A w5 w6 X := .inl hXA4
      have h16 : Also A w5 w6 r := .inl hA1
      have h26 : Also A w5 w6 (r + 1) := .inl hA2
      obtain ⟨x0, x1, x2, x3⟩ := cells_of KX6
      clear hM5 hvb KX5 hm1 hm2 E5 e6
      generalize Also A w5 w6 = A6 at *
      go_wp2_with fail
      refine (map_put hM6 (by omega) o s).mono ?_
      rintro e w7 ⟨vg, rfl, hvg, hM7, e7⟩
      have hvb7 := hvb6.ours e7
      have KX7 := ours_block e7 hX6 KX6
      have hm17 := hm16.ext e7 (fun z => z.2 h16)
      have hm27 := hm26.ext e7 (fun z => z.2 h26)
      have E7 := ours_end E6 e7
      have hyl := putA_len B xs o s
      clear hM6 hvb6 KX6 hm16 hm26 E6 e7 x0 x1 x2 x3
      go_wp2_with fail
      refine (map_list hM7 (by omega)).mono ?_
      rintro e w8 ⟨va, rfl, hva, e8⟩
      have hvb8 := hvb7.ext e8
      have hvg8 := hvg.ext2 e8 (fun _ _ z => z)
      have KX8 := (e8.block X (lt_of_heap KX7) (fun z => z)).trans KX7
      have hm18 := hm17.ext e8 (fun z => z)
      have hm28 := hm27.ext e8 (fun z => z)
      have E8 := ext0 E7 e8
      clear hM7 hvb7 hvg KX7 hm17 hm27 E7 e8
      rcases put_two hKo o m4 m5 with hp | hp
      · rw [hp] at hva hvg8 ⊢
        clear hp hyl
        obtain ⟨ag, lg, cg, rfl⟩ := ownsRow_shape hvg8
        have hlg : lg = 0 := keysAt_len hvg8
        subst hlg
        have HC := toHid2 (same_of hvb8 (KeysOf.of (A := fun _ => True) hva (fun _ _ _ => trivial)) (by simp [keysK]; omega) (by simp [keysK]; omega))
        clear hva hvg8 hvb8 KX8 hm18 hm28 hs1 hs2 hKo
        go_wp2_with fail
        refine HC.out.mono ?_
        rintro e w9 ⟨he, e9⟩
        have he' : e = .returned (.bool true) := by rw [he]; simp
        clear he HC
        subst he'
        go_wp2
        go_ret
        exact ⟨rfl, ext0 E8 e9⟩
      · have hpk := put_ok hp
        have hfit := kept_fits hKo hp
        have HGL := toHid2 (fun gi k h => gone_last hKo (o := o) (s := s) (gi := gi) (k := k) h)
        have hO0 := OL.start hKo o s
        have hgl8 : (putA B xs o s).1.length ≤ 60 := by
          rw [hpk]
          have h1 := (evictK_keys B (restK o xs) (usedOf (restK o xs) + s)).length_le
          have h2 := rest_len o xs
          simp only [keysK, List.length_map] at h1
          show (evictK B (usedOf (restK o xs) + s) (restK o xs)).1.length ≤ 60
          omega
        rw [hpk] at hva hvg8 hgl8 ⊢
        simp only at hva hvg8 hgl8 ⊢
        rw [show keysK ((evictK B (usedOf (restK o xs) + s) (restK o xs)).2 ++ [⟨o, s, pinFlag xs o⟩]) = keysK (evictK B (usedOf (restK o xs) + s) (restK o xs)).2 ++ [o] from by simp [keysK]] at hva
        clear hpk hp hyl
        generalize (evictK B (usedOf (restK o xs) + s) (restK o xs)).1 = gone at *
        generalize (evictK B (usedOf (restK o xs) + s) (restK o xs)).2 = kept at *
        generalize usedOf (restK o xs) + s = u0 at *
        obtain ⟨⟨bb, hvbK⟩, _⟩ := hvb8
        obtain ⟨ab, cb, hvb0, hcb, hmb, hab⟩ := keysAt_gen hvbK
        rw [show (keysK xs).length = m from by rw [← HN.out]; simp [keysK]] at hvb0 hcb hab
        obtain ⟨q0, HQ⟩ : ∃ q0, Hid (gone.length = q0) := ⟨_, rfl⟩
        obtain ⟨ag, cg, hvg0, hcg, hmg, hag⟩ := keysAt_gen hvg8
        rw [HQ.out] at hvg0 hcg hag hgl8
        subst hvb0
        subst hvg0
        have HAB := toHid2 hab
        have HAG := toHid2 hag
        have HVB := toHid2 hvbK
        have HVG := toHid2 hvg8
        have HVA := toHid2 hva
        have HKX := toHid2 KX8
        have HLP := toHid2 (fun (w' : World) (e : Ext Nope w8 w') (p : Own) (z : Bool) (hz : pnK xs p = some z) => lookP (hm28.ext e (fun z => z)) hs2 p hz)
        have HLS := toHid2 (fun (w' : World) (e : Ext Nope w8 w') (p : Own) (z : Int) (hz : szK xs p = some z) => lookS (hm18.ext e (fun z => z)) hs1 p hz)
        have hX8 : X < w8.heap.size := lt_of_heap KX8
        have hr8 : r + 1 < w8.heap.size := hm28.lt
        have HOW : Hid (OW w8 (.slice none 0 0) [] w8) := ⟨World.ownsRow_nil _ _ _ _, Ext.refl _ _⟩
        have HO0 := toHid2 hO0
        obtain ⟨j34, hi, hz0, hz1, hz2⟩ := info_parts info34
        clear hab hag hvbK hvg8 hva KX8 hm18 hm28 hs1 hs2 hO0 hB0 n0 n1
        go_wp2
        go_loopw [22, 23, 24, 108] (fun wt nn fr i wv => ∃ (j q : Nat) (F : Int) (a c : List Kept) (g1 : List Own) (kp : List Kept) (u : Int), i = .int .i64 j ∧ j ≤ m ∧ nn = .int .i64 q ∧ fr = .int .i64 F ∧ Hid (a.length = j ∧ g1.length = q ∧ F = B - s - usedOf kp ∧ OL B xs o s gone kept a c g1 kp u) ∧ OW w8 wt kp wv) (fun _ _ _ i _ => m - (intOf i).toNat)
        case atStart => exact ⟨0, 0, B - s, [], xs, [], [], u0, rfl, by omega, rfl, rfl, ⟨rfl, rfl, by simp [usedOf], HO0.out⟩, HOW.out⟩
        case round =>
          obtain ⟨j, q, F, a, c, g1, kp, u, rfl, hj, rfl, rfl, HH, hW⟩ := hrel
          clear HOW HO0
          obtain ⟨ha0, hg1, hF, hO⟩ := HH.out
          have hq1 : q ≤ q0 := by rw [← HQ.out, ← hg1, hO.gone]; simp
          have hF1 : -1000 ≤ F ∧ F ≤ 1000 := by have h1 := hO.lo; have h2 := hO.le; have h3 := hKo.used; have h4 := used_pos (zs := restK o c) (fun y hy => hKo.size y (by rw [hO.all]; exact List.mem_append_right _ (restK_sub o c y hy))); omega
          have hkp : kp.length ≤ 60 := by have := hO.few; omega
          by_cases hjm : j < m
          · obtain ⟨x, c', rfl⟩ : ∃ x c', c = x :: c' := by
              cases c with
              | nil => have h1 := congrArg List.length hO.all; simp at h1; have h2 := HN.out; omega
              | cons x c' => exact ⟨x, c', rfl⟩
            obtain ⟨gb, rfl⟩ := HAB.out (by omega)
            obtain ⟨y0, y1, y2, y3⟩ := key_cells (a := keysK a) (o := x.key) (b := keysK c') (HVB.out.ext2 hW.e (fun _ _ z => z)) (by rw [hO.all]; simp [keysK])
            rw [show (keysK a).length = j by simpa [keysK] using ha0] at y0 y1 y2 y3
            have hgl := World.block_lt_of_cell? _ _ y0
            have hxn := szK_at hKo.keys hO.all
            have hxp := pnK_at hKo.keys hO.all
            have hxs := hKo.size x (by rw [hO.all]; simp)
            have HXN := toHid2 hxn
            have HXP := toHid2 hxp
            have HFF := toHid2 hF
            have HO := toHid2 hO
            have HA0 := toHid2 ha0
            have HG1 := toHid2 hg1
            clear hxn hxp hF hO ha0 hg1 HH
            go_upto_region 24 with fail
            have KY : (wr.alloc (.cells (ownCells x.key) 34 (0, 0))).heap[wr.heap.size]? = some (.cells (ownCells x.key) 34 (0, 0)) := heap_alloc_new _ _
            have hWy := hW.quiet ((Ext.refl Nope wr).alloc (.cells (ownCells x.key) 34 (0, 0)))
            have hYr := toHid2 (fun k (hk : Value.ownBlock _ = some k) => (hW.want.lt k hk).2)
            clear y0 y1 y2 y3 hgl
            generalize wr.alloc (.cells (ownCells x.key) 34 (0, 0)) = wy at *
            generalize wr.heap.size = Y at *
            obtain ⟨y0, y1, y2, y3⟩ := cells_of KY
            obtain ⟨o0, o1, o2, o3⟩ := cells_of ((hWy.e.block X hX8 (fun z => z)).trans HKX.out)
            have hYl := lt_of_heap KY
            have heq : ∀ W', (Op.equalIn 10000 34 (.agg #[.int .i64 x.key.f, .int .i64 x.key.k, .int .i64 x.key.n, .int .i64 x.key.r]) (.agg #[.int .i64 o.f, .int .i64 o.k, .int .i64 o.n, .int .i64 o.r])).run Try.prog W' = .ok (decide (x.key = o)) W' := fun W' => eq34 x.key o W'
            by_cases hxo : x.key = o
            · have HO' := toHid2 (HO.out.skip hxo)
              replace heq := fun W => (heq W).trans (by rw [decide_eq_true hxo])
              clear hxo hW
              go_quiet (fail)
              rename_i nq
              have Wz := hWy.quiet ((Ext.refl Nope wy).drewN nq)
              have KYz : (wy.drewN nq).heap[Y]? = some (.cells (ownCells x.key) 34 (0, 0)) := KY
              clear y0 y1 y2 y3 o0 o1 o2 o3 KY hWy
              generalize wy.drewN nq = wz at *
              have hYz := lt_of_heap KYz
              obtain ⟨y0, y1, y2, y3⟩ := cells_of KYz
              obtain ⟨o0, o1, o2, o3⟩ := cells_of ((Wz.e.block X hX8 (fun z => z)).trans HKX.out)
              clear HXN HXP
              go_wp2
              go_roundw
              case rel => exact ⟨j + 1, q, F, _, _, _, _, _, by go_num, by omega, rfl, rfl, ⟨by have := HA0.out; simp; omega, HG1.out, HFF.out, HO'.out⟩, Wz⟩
              case measure => simp [intOf]; omega
            · have hst := HO.out.step hKo hxo
              replace heq := fun W => (heq W).trans (by rw [decide_eq_false hxo])
              clear hxo
              rcases hst with ⟨g2, hgo, hpn, hO'⟩ | ⟨hgo, hO'⟩
              · obtain ⟨gg, rfl⟩ := HAG.out (by rw [← HQ.out, hgo]; simp; omega)
                obtain ⟨z0, z1, z2, z3⟩ := key_cells (a := g1) (o := x.key) (b := g2) (HVG.out.ext2 hWy.e (fun _ _ z => z)) hgo
                rw [HG1.out] at z0 z1 z2 z3
                have hqq : q < q0 := by rw [← HQ.out, hgo, ← HG1.out]; simp
                have hqi : (q : Int) < (q0 : Int) := by omega
                have hq0 : (0 : Int) ≤ (q : Int) := by omega
                have heq2 : ∀ W', (Op.equalIn 10000 34 (.agg #[.int .i64 x.key.f, .int .i64 x.key.k, .int .i64 x.key.n, .int .i64 x.key.r]) (.agg #[.int .i64 x.key.f, .int .i64 x.key.k, .int .i64 x.key.n, .int .i64 x.key.r])).run Try.prog W' = .ok true W' := fun W' => (eq34 x.key x.key W').trans (by simp)
                have hxp := HXP.out
                rw [hpn] at hxp
                have HXP' := toHid2 hxp
                have HO' := toHid2 hO'
                clear hgo hpn hO' hxp hW
                go_quiet (fail)
                rename_i nq
                have Wz := hWy.quiet ((Ext.refl Nope wy).drewN nq)
                have KYz : (wy.drewN nq).heap[Y]? = some (.cells (ownCells x.key) 34 (0, 0)) := KY
                clear y0 y1 y2 y3 o0 o1 o2 o3 KY hWy
                generalize wy.drewN nq = wz at *
                have hYz := lt_of_heap KYz
                obtain ⟨y0, y1, y2, y3⟩ := cells_of KYz
                obtain ⟨o0, o1, o2, o3⟩ := cells_of ((Wz.e.block X hX8 (fun z => z)).trans HKX.out)
                have hlP := HLP.out wz Wz.e x.key false HXP'.out
                clear HXN HXP z0 z1 z2 z3
                go_wp2
                go_roundw
                case rel => exact ⟨j + 1, q + 1, F, _, _, _, _, _, by go_num, by omega, by go_num, rfl, ⟨by have := HA0.out; simp; omega, by have := HG1.out; simp; omega, HFF.out, HO'.out⟩, Wz⟩
                case measure => simp [intOf]; omega
              · have HO' := toHid2 hO'
                have hnk : (keysK kp).length ≤ 60 := by simpa [keysK] using hkp
                have hs1x : 0 ≤ x.size := hxs.1
                have hs2x : x.size ≤ 65536 := hxs.2
                rcases hgo with hgo | ⟨yk, g2, hgo, hyk, hpn⟩
                · have hqq : q = q0 := by rw [← HQ.out, hgo, HG1.out]
                  have hqi : ¬ (q : Int) < (q0 : Int) := by omega
                  have hql : ¬ q < q0 := by omega
                  have HQQ := toHid2 hqq
                  clear hgo hO' hqq hW hxs
                  cases hpx : x.pinned
                  all_goals
                    have hxp := HXP.out
                    rw [hpx] at hxp
                    have HXP' := toHid2 hxp
                    clear hxp hpx
                    go_quiet (fail)
                    rename_i nq
                    have Wz := hWy.quiet ((Ext.refl Nope wy).drewN nq)
                    have KYz : (wy.drewN nq).heap[Y]? = some (.cells (ownCells x.key) 34 (0, 0)) := KY
                    clear y0 y1 y2 y3 o0 o1 o2 o3 KY hWy
                    generalize wy.drewN nq = wz at *
                    have hYz := lt_of_heap KYz
                    obtain ⟨y0, y1, y2, y3⟩ := cells_of KYz
                    obtain ⟨o0, o1, o2, o3⟩ := cells_of ((Wz.e.block X hX8 (fun z => z)).trans HKX.out)
                    have hlP := HLP.out wz Wz.e x.key _ HXP'.out
                    have hown := Wz.want
                    clear HXP
                    go_wp2_with (first | (at_builtin; refine wpList_append_lies _ rfl (.tmp 152) (.tmp 154) 43 rfl w8.heap.size 34 j34 _ 4 32 Try.underlying43 hi hz0 hz1 hz2 rfl (by decide) _ _ _ rfl (hown.alloc _) ⟨wz.heap.size, 0, none⟩ 1 1 (keyCells [x.key]) rfl rfl ?c1 ?c2 (by omega) ?c3 ?c4 ?c5 _ rfl ?_))
                    case c1 => intro jj uu hjj; first | exact keyCells_at (heap_alloc_new wz _) jj uu hjj | (rw [keyCells_one] at hjj; exact hjj)
                    case c2 => exact keyCells_oneCell _
                    case c3 => unfold maxLen; omega
                    case c4 => omega
                    case c5 => have := Wz.e.size; simp; omega
                    intro g' cap' wq hown' hgrow hloc hlt'
                    have hWq := Wz.snoc hown' (by rfl) hgrow
                    have KYq := Wz.far KYz (fun z => Nat.lt_irrefl _ (hYr.out _ z)) hgrow
                    obtain ⟨p0, p1, p2, p3⟩ := cells_of KYq
                    have hlS := HLS.out wq hWq.e x.key x.size HXN.out
                    clear hown' hgrow hloc hlt' hown y0 y1 y2 y3 o0 o1 o2 o3 KYz KYq Wz
                    go_wp2_with fail
                    go_roundw
                    case rel => exact ⟨j + 1, q, F - x.size, _, _, _, kp ++ [x], _, by go_num, by omega, rfl, rfl, ⟨by have := HA0.out; simp; omega, HG1.out, by have := HFF.out; rw [usedOf_append]; simp [usedOf] at this ⊢; omega, HO'.out⟩, hWq⟩
                    case measure => simp [intOf]; omega
                · obtain ⟨gg, rfl⟩ := HAG.out (by rw [← HQ.out, hgo]; simp; omega)
                  obtain ⟨z0, z1, z2, z3⟩ := key_cells (a := g1) (o := yk) (b := g2) (HVG.out.ext2 hWy.e (fun _ _ z => z)) hgo
                  rw [HG1.out] at z0 z1 z2 z3
                  have hqq : q < q0 := by rw [← HQ.out, hgo, ← HG1.out]; simp
                  have hqi : (q : Int) < (q0 : Int) := by omega
                  have hq0 : (0 : Int) ≤ (q : Int) := by omega
                  have heq2 : ∀ W', (Op.equalIn 10000 34 (.agg #[.int .i64 x.key.f, .int .i64 x.key.k, .int .i64 x.key.n, .int .i64 x.key.r]) (.agg #[.int .i64 yk.f, .int .i64 yk.k, .int .i64 yk.n, .int .i64 yk.r])).run Try.prog W' = .ok false W' := fun W' => (eq34 x.key yk W').trans (by rw [decide_eq_false (fun e => hyk (Eq.symm e))])
                  have hxp := HXP.out
                  rw [hpn] at hxp
                  have HXP' := toHid2 hxp
                  clear hgo hpn hO' hxp hW hyk hxs
                  go_quiet (fail)
                  rename_i nq
                  have Wz := hWy.quiet ((Ext.refl Nope wy).drewN nq)
                  have KYz : (wy.drewN nq).heap[Y]? = some (.cells (ownCells x.key) 34 (0, 0)) := KY
                  clear y0 y1 y2 y3 o0 o1 o2 o3 KY hWy
                  generalize wy.drewN nq = wz at *
                  have hYz := lt_of_heap KYz
                  obtain ⟨y0, y1, y2, y3⟩ := cells_of KYz
                  obtain ⟨o0, o1, o2, o3⟩ := cells_of ((Wz.e.block X hX8 (fun z => z)).trans HKX.out)
                  have hlP := HLP.out wz Wz.e x.key true HXP'.out
                  have hown := Wz.want
                  clear HXP z0 z1 z2 z3
                  go_wp2_with (first | (at_builtin; refine wpList_append_lies _ rfl (.tmp 152) (.tmp 154) 43 rfl w8.heap.size 34 j34 _ 4 32 Try.underlying43 hi hz0 hz1 hz2 rfl (by decide) _ _ _ rfl (hown.alloc _) ⟨wz.heap.size, 0, none⟩ 1 1 (keyCells [x.key]) rfl rfl ?c1 ?c2 (by omega) ?c3 ?c4 ?c5 _ rfl ?_))
                  case c1 => intro jj uu hjj; first | exact keyCells_at (heap_alloc_new wz _) jj uu hjj | (rw [keyCells_one] at hjj; exact hjj)
                  case c2 => exact keyCells_oneCell _
                  case c3 => unfold maxLen; omega
                  case c4 => omega
                  case c5 => have := Wz.e.size; simp; omega
                  intro g' cap' wq hown' hgrow hloc hlt'
                  have hWq := Wz.snoc hown' (by rfl) hgrow
                  have KYq := Wz.far KYz (fun z => Nat.lt_irrefl _ (hYr.out _ z)) hgrow
                  obtain ⟨p0, p1, p2, p3⟩ := cells_of KYq
                  have hlS := HLS.out wq hWq.e x.key x.size HXN.out
                  clear hown' hgrow hloc hlt' hown y0 y1 y2 y3 o0 o1 o2 o3 KYz KYq Wz
                  go_wp2_with fail
                  go_roundw
                  case rel => exact ⟨j + 1, q, F - x.size, _, _, _, kp ++ [x], _, by go_num, by omega, rfl, rfl, ⟨by have := HA0.out; simp; omega, HG1.out, by have := HFF.out; rw [usedOf_append]; simp [usedOf] at this ⊢; omega, HO'.out⟩, hWq⟩
                  case measure => simp [intOf]; omega
          · have hjj : j = m := by omega
            subst hjj
            have hc0 : c = [] := by
              have h1 := congrArg List.length hO.all
              simp at h1
              have h2 := HN.out
              exact List.eq_nil_of_length_eq_zero (by omega)
            subst hc0
            obtain ⟨hgd, hkd⟩ := hO.done
            have hqq : q0 = q := by rw [← HQ.out, hgd, hg1]
            subst hqq
            subst hkd
            have hF0 : 0 ≤ F := by omega
            have hnk : (keysK kept).length ≤ 60 := by simpa [keysK] using hkp
            obtain ⟨o0, o1, o2, o3⟩ := cells_of ((hW.e.block X hX8 (fun z => z)).trans HKX.out)
            have hXl := World.block_lt_of_cell? _ _ o0
            by_cases hq : q0 = 0
            · subst hq
              clear hgd hF hO hg1 ha0 HH hjm hj
              have hown := hW.want
              go_wp2_with (first | (at_builtin; refine wpList_take (by rfl) (fun K hK => ?_); refine wp_append_lies _ (.tmp 189) (.tmp 191) 43 rfl w8.heap.size 34 j34 _ 4 32 Try.underlying43 hi hz0 hz1 hz2 rfl (by decide) _ _ _ rfl (hown.alloc _) ⟨wr.heap.size, 0, none⟩ 1 1 (keyCells [o]) rfl rfl ?c1 ?c2 (by omega) ?c3 ?c4 ?c5 _ rfl ?_))
              case c1 => intro jj uu hjj; first | exact keyCells_at (heap_alloc_new wr _) jj uu hjj | (rw [keyCells_one] at hjj; exact hjj)
              case c2 => exact keyCells_oneCell _
              case c3 => unfold maxLen; omega
              case c4 => omega
              case c5 => have := hW.e.size; simp; omega
              intro g' cap' wq hown' hgrow hloc hlt'
              refine hK _ _ ?_
              have hWq := hW.snoc (x := ⟨o, 0, false⟩) hown' (by rfl) hgrow
              have hkk : keysK (kept ++ [⟨o, 0, false⟩]) = keysK kept ++ [o] := by simp [keysK]
              have HC := toHid2 (same_of (A := fun _ => True) (A' := fun _ => True) (KeysOf.of (HVA.out.ext2 hWq.e (fun _ _ z => z)) (fun _ _ _ => trivial)) (KeysOf.of hWq.want (fun _ _ _ => trivial)) (by simp; omega) (by rw [hkk]; simp; omega))
              have hE := ext0 E8 hWq.e
              clear hown' hgrow hloc hlt' hown o0 o1 o2 o3 hW hWq
              go_wp2_with fail
              refine HC.out.mono ?_
              rintro e w9 ⟨he, e9⟩
              have he' : e = .returned (.bool true) := by rw [he, hkk]; simp
              clear he HC hkk
              subst he'
              go_wp2
              go_ret
              exact ⟨rfl, ext0 hE e9⟩
            · obtain ⟨p, rfl⟩ : ∃ p, q0 = p + 1 := ⟨q0 - 1, by omega⟩
              obtain ⟨gi, k, hgk⟩ : ∃ gi k, gone = gi ++ [k] := ⟨gone.dropLast, gone.getLast (by intro z; have := HQ.out; rw [z] at this; simp at this), (List.dropLast_concat_getLast _).symm⟩
              obtain ⟨gg, rfl⟩ := HAG.out (by omega)
              obtain ⟨z0, z1, z2, z3⟩ := key_cells (a := gi) (o := k) (b := []) (HVG.out.ext2 hW.e (fun _ _ z => z)) hgk
              have hpl : gi.length = p := by have := HQ.out; rw [hgk] at this; simpa using this
              rw [hpl] at z0 z1 z2 z3
              obtain ⟨zz, hzz, hzz0, hzz1, hzz2⟩ := HGL.out gi k hgk
              have hlS := HLS.out wr hW.e k zz hzz
              have hn1 : ¬ 0 ≤ F - zz := by omega
              have hn2 : ¬ zz ≤ F := by omega
              have hn3 : F < zz := by omega
              have hn4 : F - zz < 0 := by omega
              clear hgd hF hO hg1 ha0 HH hjm hj hgk hpl hzz hq
              have hown := hW.want
              go_wp2_with (first | (at_builtin; refine wpList_take (by rfl) (fun K hK => ?_); refine wp_append_lies _ (.tmp 189) (.tmp 191) 43 rfl w8.heap.size 34 j34 _ 4 32 Try.underlying43 hi hz0 hz1 hz2 rfl (by decide) _ _ _ rfl (hown.alloc _) ⟨wr.heap.size, 0, none⟩ 1 1 (keyCells [o]) rfl rfl ?c1 ?c2 (by omega) ?c3 ?c4 ?c5 _ rfl ?_))
              case c1 => intro jj uu hjj; first | exact keyCells_at (heap_alloc_new wr _) jj uu hjj | (rw [keyCells_one] at hjj; exact hjj)
              case c2 => exact keyCells_oneCell _
              case c3 => unfold maxLen; omega
              case c4 => omega
              case c5 => have := hW.e.size; simp; omega
              intro g' cap' wq hown' hgrow hloc hlt'
              refine hK _ _ ?_
              have hWq := hW.snoc (x := ⟨o, 0, false⟩) hown' (by rfl) hgrow
              have hkk : keysK (kept ++ [⟨o, 0, false⟩]) = keysK kept ++ [o] := by simp [keysK]
              have HC := toHid2 (same_of (A := fun _ => True) (A' := fun _ => True) (KeysOf.of (HVA.out.ext2 hWq.e (fun _ _ z => z)) (fun _ _ _ => trivial)) (KeysOf.of hWq.want (fun _ _ _ => trivial)) (by simp; omega) (by rw [hkk]; simp; omega))
              have hE := ext0 E8 hWq.e
              clear hown' hgrow hloc hlt' hown o0 o1 o2 o3 hW hWq
              go_wp2_with fail
              refine HC.out.mono ?_
              rintro e w9 ⟨he, e9⟩
              have he' : e = .returned (.bool true) := by rw [he, hkk]; simp
              clear he HC hkk
              subst he'
              go_wp2
              go_ret
              exact ⟨rfl, ext0 hE e9⟩
end Go.Proofs.Ytkloaadaicklfaa
