/-
  What MemoryUse computes: true.
-/
import Derived.Test.YtkloaadaicklfaaU0
import Derived.Deep.DeepCutAuto
import Derived.Deep.CutBlock
import Derived.IntWalk
namespace Go.Proofs.Ytkloaadaicklfaa
open Go.RowKit
attribute [local go_sem] alloc_drewN setCell_drewN

set_option maxRecDepth 100000 in
set_option maxHeartbeats 8000000 in
theorem memuse_calls (n : Int) (n0 : 0 ≤ n) (n1 : n ≤ 255) (q : Int) (q0 : 0 ≤ q) (q1 : q ≤ 255) (W : World) (a : Option Addr) (len cap : Nat) (ha : ActsAt W a len) (hlen : len ≤ 9223372036854775807) :
    Calls Try.prog 8 #[.int .u8 n, .slice a len cap, .int .u8 q] W fun e w' => e = .returned (.bool true) ∧ Ext Nope W w' := by
  have m0 : 0 ≤ n % 64 := by omega
  have m1 : n % 64 ≤ 1073741824 := by omega
  go_enter Try.func8, Try.ntmps8
  go_wp2_with fail
  refine (sanity_calls _).mono ?_
  rintro e w1 ⟨rfl, E1⟩
  have ha1 := ha.ext E1
  clear ha
  go_wp2_with fail
  refine (filled_calls (n % 64) m0 m1 w1 a len cap ha1 hlen).mono ?_
  rintro e w2 ⟨bm, br, xs, rfl, hB, hxl, h7⟩
  have E2 := ext0 E1 hB.under
  have hM2 := hB.toMAp (w0 := W) E1.size
  obtain ⟨F, G, hb3, hF, hG, _⟩ := hB
  obtain ⟨v, hrep, hRF⟩ := hb3.ref
  have hbl : ∀ b, RFoot br v b → b < w2.heap.size := fun b hb => hb3.gl b (hRF b hb)
  have hKO := toHid2 hb3.ok
  have c2 := hrep.c2
  have hbr := hbl br (.inl rfl)
  obtain ⟨av, cp, hv, hcp, hmx, hav⟩ := hrep.gen
  obtain ⟨m, HN⟩ : ∃ m, Hid (xs.length = m) := ⟨_, rfl⟩
  rw [HN.out] at hv hcp hav
  subst hv
  have HAV := toHid2 hav
  have HRL := toHid2 hrep.list
  have hm60 : m ≤ 60 := by rw [← HN.out]; exact hxl
  have HBL := toHid2 hbl
  have HM2 := toHid2 hM2
  clear hav hrep hbl hRF hG hF hb3 ha1 h7 hM2 E1 hxl
  by_cases hm0 : m = 0
  · have hm0' : ((m : Int) == 0) = true := by simp [hm0]
    subst hm0
    go_wp2
    go_ret
    exact ⟨rfl, E2⟩
  · have hmp : 0 < m := by omega
    have hmi : ¬ (m : Int) = 0 := by omega
    have hmb : ((m : Int) == 0) = false := by simp; omega
    obtain ⟨k, hk⟩ : ∃ k : Nat, q % (m : Int) = (k : Int) := ⟨(q % (m : Int)).toNat, by have := Int.emod_nonneg q hmi; omega⟩
    have hkm : k < m := by have := Int.emod_lt_of_pos q (show 0 < (m : Int) by omega); omega
    have hkt : q.tmod (m : Int) = (k : Int) := by rw [Int.tmod_eq_emod_of_nonneg q0]; exact hk
    obtain ⟨gg, rfl⟩ := HAV.out hmp
    obtain ⟨x, xa, xb, hx, hxl2⟩ := nth_split (xs := xs) (k := k) (by rw [HN.out]; exact hkm)
    have hcells := HRL.out
    rw [hx] at hcells
    obtain ⟨y0, y1, y2, y3, y4, y5⟩ := kept_cells hcells
    rw [hxl2] at y0 y1 y2 y3 y4 y5
    have hggl := World.block_lt_of_cell? _ _ y0
    have HX := toHid2 hx
    have HXL := toHid2 hxl2
    clear hx hxl2 hcells HRL HAV hm0
    go_upto_region 7 with fail
    have KX : RX (w2.alloc (.cells (keptRow x) 55 (0, 0))) w2.heap.size x := heap_alloc_new _ _
    have e3 : Ext Nope w2 (w2.alloc (.cells (keptRow x) 55 (0, 0))) := (Ext.refl _ _).alloc _
    have hM3 := HM2.out.also e3
    have hXA : Also (fun b => b < w1.heap.size) w2 (w2.alloc (.cells (keptRow x) 55 (0, 0))) w2.heap.size := .inr ⟨Nat.le_refl _, by simp⟩
    have E3 := ext0 E2 e3
    clear c2 y0 y1 y2 y3 y4 y5 hbr hggl HM2 e3 E2 HBL hk hkt
    generalize Also (fun b => b < w1.heap.size) w2 (w2.alloc (.cells (keptRow x) 55 (0, 0))) = A at *
    generalize w2.alloc (.cells (keptRow x) 55 (0, 0)) = w3 at *
    generalize w2.heap.size = X at *
    go_wp2_with fail
    refine (map_list hM3 (by rw [HN.out]; omega)).mono ?_
    rintro e w4 ⟨vl, rfl, hvl, e4⟩
    have hM4 := hM3.also e4
    have KX4 : RX w4 X x := (e4.block X (lt_of_heap KX) (fun z => z)).trans KX
    have E4 := ext0 E3 e4
    have hXA4 : Also A w3 w4 X := .inl hXA
    clear hM3 KX E3 hXA e4
    generalize Also A w3 w4 = A4 at *
    obtain ⟨al, cl, hvl0, hcl, hml, hal⟩ := keysAt_gen hvl
    rw [show (keysK xs).length = m from by rw [← HN.out]; simp [keysK]] at hvl0 hcl hal
    subst hvl0
    have HVL := toHid2 hvl
    have HAL := toHid2 hal
    have HM4 := toHid2 hM4
    have HKX := toHid2 KX4
    have hXl : X < w4.heap.size := lt_of_heap KX4
    have HKS : Hid (keysK xs = keysK xa ++ x.key :: keysK xb ∧ (keysK xa).length = k ∧ (keysK xs).length = m) := ⟨by rw [HX.out]; simp [keysK], by rw [← HXL.out]; simp [keysK], by rw [← HN.out]; simp [keysK]⟩
    have HW0 : Hid (KeysAt w4 w4.heap.size (.slice none 0 0) []) := World.ownsRow_nil _ _ _ _
    obtain ⟨j34, hi, hz0, hz1, hz2⟩ := info_parts info34
    clear hvl hal hM4 KX4
    go_upto_block 0 with fail
    go_cut [13] (fun s13 wx => KeysAt wx w4.heap.size s13 (keysK xa ++ keysK xb) ∧ Ext Nope w4 wx)
    case first =>
      go_wp2
      go_loopw [13, 67] (fun wt i wv => ∃ j : Nat, i = .int .i64 j ∧ j ≤ m ∧ KeysAt wv w4.heap.size wt (wantK (keysK xs) k j) ∧ Ext Nope w4 wv) (fun _ i _ => m - (intOf i).toNat)
      case atStart => exact ⟨0, rfl, by omega, by rw [wantK_zero]; exact HW0.out, Ext.refl _ _⟩
      case round =>
        obtain ⟨j, rfl, hj, hW, hE⟩ := hrel
        by_cases hjm : j < m
        · obtain ⟨gl, rfl⟩ := HAL.out (by omega)
          obtain ⟨y, a1, a2, hy, hyl⟩ := nth_split (xs := keysK xs) (k := j) (by rw [HKS.out.2.2]; exact hjm)
          obtain ⟨y0, y1, y2, y3⟩ := key_cells (HVL.out.ext2 hE (fun _ _ z => z)) hy
          rw [hyl] at y0 y1 y2 y3
          have hgl := World.block_lt_of_cell? _ _ y0
          have hwl := wantK_len (keysK xs) k j
          rw [HKS.out.2.2] at hwl
          by_cases hjk : j = k
          · have hs := wantK_same hy (hyl.trans hjk)
            have hW2 := hW
            rw [show wantK (keysK xs) k j = wantK (keysK xs) k (j + 1) from by rw [hjk]; exact hs.symm] at hW2
            have hjk' : ((j : Int) != (k : Int)) = false := by simp [hjk]
            clear hy hyl hs hjk hW
            go_wp2
            go_roundw
            case rel => exact ⟨j + 1, by go_num, by omega, hW2.ext2 ((Ext.refl Nope wr).alloc _) (fun _ _ z => z), hE.alloc _⟩
            case measure => simp [intOf]; omega
          · have hs := wantK_snoc hy hyl hjk
            have HS := toHid2 hs
            have hjk' : ((j : Int) != (k : Int)) = true := by simp; omega
            have hjk2 : ¬ (j : Int) = (k : Int) := by omega
            clear hy hyl hs hjk
            have hWy := hW.ext2 ((Ext.refl Nope wr).alloc (.cells (ownCells y) 34 (0, 0))) (fun _ _ z => z)
            have hEy := hE.alloc (.cells (ownCells y) 34 (0, 0))
            have KY : (wr.alloc (.cells (ownCells y) 34 (0, 0))).heap[wr.heap.size]? = some (.cells (ownCells y) 34 (0, 0)) := heap_alloc_new _ _
            clear hW hE
            go_upto_region 12 with fail
            clear y0 y1 y2 y3 hgl
            generalize wr.alloc (.cells (ownCells y) 34 (0, 0)) = wy at *
            generalize wr.heap.size = Y at *
            have hYl := lt_of_heap KY
            obtain ⟨y0, y1, y2, y3⟩ := cells_of KY
            have hown := hWy
            go_wp2_with (first | (at_builtin; refine wpList_append_lies _ rfl (.tmp 75) (.tmp 77) 43 rfl w4.heap.size 34 j34 _ 4 32 Try.underlying43 hi hz0 hz1 hz2 rfl (by decide) _ _ _ rfl (hown.alloc _) ⟨wy.heap.size, 0, none⟩ 1 1 (keyCells [y]) rfl rfl ?c1 ?c2 (by omega) ?c3 ?c4 ?c5 _ rfl ?_))
            case c1 => intro jj uu hjj; first | exact keyCells_at (heap_alloc_new wy _) jj uu hjj | (rw [keyCells_one] at hjj; exact hjj)
            case c2 => exact keyCells_oneCell _
            case c3 => unfold maxLen; omega
            case c4 => omega
            case c5 => have := hEy.size; simp; omega
            intro g' cap' wq hown' hgrow hloc hlt'
            have hWq : KeysAt wq w4.heap.size (.slice (some ⟨g', 0, none⟩) ((wantK (keysK xs) k j).length + 1) cap') (wantK (keysK xs) k (j + 1)) := by rw [HS.out]; exact KeysAt.snoc' hown' (by rfl)
            have hEq : Ext Nope w4 wq := (hEy.alloc _).grown hgrow fun b hb hlt => absurd (hown.lt b hb).1 (by omega)
            clear hown' hgrow hloc hlt' hown y0 y1 y2 y3 hWy hEy KY
            go_wp2_with fail
            go_roundw
            case rel => exact ⟨j + 1, by go_num, by omega, hWq, hEq⟩
            case measure => simp [intOf]; omega
        · have hjj : j = m := by omega
          subst hjj
          have hw := wantK_end HKS.out.1 HKS.out.2.1 HKS.out.2.2
          rw [hw] at hW
          clear hw
          go_wp2
          go_meet
          exact ⟨hW, hE⟩
    case rest =>
      obtain ⟨hW, e5⟩ := hcut
      go_wp2_with fail
      refine (map_used (HM4.out.also e5)).mono ?_
      rintro e wz ⟨rfl, rfl⟩
      have hM5 := HM4.out.also e5
      have hV5 : KeysOf (Also A4 w4 wc) wc u13 (keysK xa ++ keysK xb) := ⟨⟨_, hW⟩, fun g hg => .inr (hW.lt g hg)⟩
      have KX5 : RX wc X x := (e5.block X hXl (fun z => z)).trans HKX.out
      have hXA5 : Also A4 w4 wc X := .inl hXA4
      have E5 := ext0 E4 e5
      have hks := hKO.out.keys
      have hU := use_split hks HX.out
      have hus : usedOf (xa ++ xb ++ [x]) = usedOf xs := by rw [used_move, ← HX.out]
      have HU := toHid2 hU
      have HUS := toHid2 hus
      have HKS2 : Hid ((keysK (xa ++ xb ++ [x])).length = m ∧ ((keysK xa ++ keysK xb) ++ [x.key]).length = m ∧ keysK (xa ++ xb ++ [x]) = (keysK xa ++ keysK xb) ++ [x.key]) := by
        have h1 : keysK (xa ++ xb ++ [x]) = (keysK xa ++ keysK xb) ++ [x.key] := by simp [keysK]
        have h2 : (keysK (xa ++ xb ++ [x])).length = m := by rw [← HN.out, HX.out]; simp [keysK]
        exact ⟨h2, by rw [← h1]; exact h2, h1⟩
      obtain ⟨us, husd⟩ : ∃ us, usedOf xs = us := ⟨_, rfl⟩
      rw [husd] at HUS ⊢
      obtain ⟨x0, x1, x2, x3, x4, x5⟩ := KX5.cells
      clear hW e5 HW0 HVL HAL HM4 HKX hXA4 E4 hks hU hus husd HKS hXl
      generalize Also A4 w4 wc = A5 at *
      go_wp2_with fail
      refine (map_use hM5 x.key).mono ?_
      rw [HU.out]
      rintro e w6 ⟨rfl, hM6, e6⟩
      have hV6 := hV5.ours e6
      have KX6 : RX w6 X x := ours_block e6 hXA5 KX5
      have E6 := ours_end E5 e6
      have hM6l : (xa ++ xb ++ [x]).length ≤ 900 := by have := HKS2.out.1; simp only [keysK, List.length_map] at this; omega
      clear x0 x1 x2 x3 x4 x5 hM5 hV5 KX5 E5 e6
      go_upto_region 16 with fail
      go_cut [18] (fun s18 wx => s18 = .bool true ∧ Ext Nope w6 wx)
      case first =>
        have SK : Hid (∀ w', Ext Nope w6 w' → w'.cell? ⟨X, 0, none⟩ = some (.int .i64 x.key.f) ∧ w'.cell? ⟨X, 1, none⟩ = some (.int .i64 x.key.k) ∧ w'.cell? ⟨X, 2, none⟩ = some (.int .i64 x.key.n) ∧ w'.cell? ⟨X, 3, none⟩ = some (.int .i64 x.key.r)) := fun w' e => by
          obtain ⟨z0, z1, z2, z3, _⟩ := RX.cells (show RX w' X x from (e.block X (lt_of_heap KX6) (fun z => z)).trans KX6)
          exact ⟨z0, z1, z2, z3⟩
        have HLIST := toHid2 (fun (w' : World) (e : Ext Nope w6 w') => map_list (hM6.ext0 e) hM6l)
        have HUSED := toHid2 (fun (w' : World) (e : Ext Nope w6 w') => map_used (hM6.ext0 e))
        rw [HUS.out] at HUSED
        obtain ⟨⟨bv, hvw⟩, _⟩ := hV6
        have HV := toHid2 (fun (w' : World) (e : Ext Nope w6 w') => hvw.ext2 e (fun _ _ z => z))
        have HKS3 : (keysK (xa ++ xb ++ [x])).length ≤ 1000000 ∧ ((keysK xa ++ keysK xb) ++ [x.key]).length ≤ 1000000 := by rw [HKS2.out.1, HKS2.out.2.1]; omega
        have HKS4 : Ending.returned (.bool (decide (keysK (xa ++ xb ++ [x]) = (keysK xa ++ keysK xb) ++ [x.key]))) = Ending.returned (.bool true) := by rw [HKS2.out.2.2]; simp
        have HKS5 : (keysK xa ++ keysK xb).length ≤ 1000 := by have := HKS2.out.2.1; rw [List.length_append] at this; omega
        clear hvw KX6 hM6
        go_region_held3 (fun w' => w'.cell? ⟨X, 0, none⟩ = some (.int .i64 x.key.f) ∧ w'.cell? ⟨X, 1, none⟩ = some (.int .i64 x.key.k) ∧ w'.cell? ⟨X, 2, none⟩ = some (.int .i64 x.key.n) ∧ w'.cell? ⟨X, 3, none⟩ = some (.int .i64 x.key.r))
          ((refine SK.out _ ?_; (repeat (first | exact Ext.refl _ _ | exact e8n | refine Ext.drew ?_ | refine Ext.alloc ?_ _ | refine ext0 ?_ e9 | refine ext0 ?_ e4 | refine ext0 ?_ e1))))
          (first
            | (go_at_call 18; refine (HLIST.out _ ?_).mono ?_; (focus (repeat (first | exact Ext.refl _ _ | exact e8n | refine Ext.drew ?_ | refine Ext.alloc ?_ _ | refine ext0 ?_ e9 | refine ext0 ?_ e4 | refine ext0 ?_ e1)); done); rintro e w1 ⟨v1, rfl, hv1, e1⟩)
            | (go_at_call 19; refine (HUSED.out _ ?_).mono ?_; (focus (repeat (first | exact Ext.refl _ _ | exact e8n | refine Ext.drew ?_ | refine Ext.alloc ?_ _ | refine ext0 ?_ e9 | refine ext0 ?_ e4 | refine ext0 ?_ e1)); done); rintro e wz ⟨rfl, rfl⟩)
            | (go_at_call 20; refine (same_walk (bp := 0) (ks := keysK (xa ++ xb ++ [x])) ?_ hk8 HKS3.1 HKS3.2).mono ?_; (focus (repeat (first | exact hv1.base (fun _ _ => Nat.zero_le _) | refine KeysAt.ext2 ?_ e8 hne8 | refine KeysAt.ext2 ?_ e4 (fun _ _ z => z) | refine KeysAt.ext2 ?_ ((Ext.refl Nope _).alloc _) (fun _ _ z => z))); done); rintro e w9 ⟨he, e9⟩; have he' : e = .returned (.bool true) := he.trans HKS4; clear he; subst he')
            | ((rw [if_pos (by rfl)]; refine wp_joinK (.tmp 88) (.tmp 89) rfl _ rfl ?_ _ rfl bv (keysK xa ++ keysK xb) ?_ HKS5 ?_; (focus (repeat (first | (refine heap_alloc_at _ _ _ ?_; (first | rfl | (simp; done) | (simp; omega) | (have h1 := e1.size; simp at h1 ⊢; omega) | (have h1 := e1.size; have h4 := e4.size; simp at h1 h4 ⊢; omega)); done) | (refine (heap_alloc_old _ _ _ ?_).trans ?_; (focus ((first | rfl | (simp; done) | (simp; omega) | (have h1 := e1.size; simp at h1 ⊢; omega) | (have h1 := e1.size; have h4 := e4.size; simp at h1 h4 ⊢; omega)); done))) | (refine (e1.block _ ?_ (fun z => z)).trans ?_; (focus ((first | rfl | (simp; done) | (simp; omega) | (have h1 := e1.size; simp at h1 ⊢; omega) | (have h1 := e1.size; have h4 := e4.size; simp at h1 h4 ⊢; omega)); done))) | (refine (e4.block _ ?_ (fun z => z)).trans ?_; (focus ((first | rfl | (simp; done) | (simp; omega) | (have h1 := e1.size; simp at h1 ⊢; omega) | (have h1 := e1.size; have h4 := e4.size; simp at h1 h4 ⊢; omega)); done))))); done); (focus refine HV.out _ ?_; (repeat (first | exact Ext.refl _ _ | exact e8n | refine Ext.drew ?_ | refine Ext.alloc ?_ _ | refine ext0 ?_ e9 | refine ext0 ?_ e4 | refine ext0 ?_ e1)); done); intro v4 w4 hk4 e4 hf4))
            | (rw [if_pos (by rfl)]; refine wp_snocK (.tmp 90) (.tmp 93) rfl v4 rfl (keysK xa ++ keysK xb) ?_ HKS5 _ rfl x.key ?_ (fun k => w1.heap.size ≤ k) ?_ ?_; (focus (first | exact hk4 | exact hk4.ext2 ((Ext.refl Nope _).alloc _) (fun _ _ z => z)); done); (focus (repeat (first | (refine heap_alloc_at _ _ _ ?_; (first | rfl | (simp; done) | (simp; omega) | (have h1 := e1.size; simp at h1 ⊢; omega) | (have h1 := e1.size; have h4 := e4.size; simp at h1 h4 ⊢; omega)); done) | (refine (heap_alloc_old _ _ _ ?_).trans ?_; (focus ((first | rfl | (simp; done) | (simp; omega) | (have h1 := e1.size; simp at h1 ⊢; omega) | (have h1 := e1.size; have h4 := e4.size; simp at h1 h4 ⊢; omega)); done))) | (refine (e1.block _ ?_ (fun z => z)).trans ?_; (focus ((first | rfl | (simp; done) | (simp; omega) | (have h1 := e1.size; simp at h1 ⊢; omega) | (have h1 := e1.size; have h4 := e4.size; simp at h1 h4 ⊢; omega)); done))) | (refine (e4.block _ ?_ (fun z => z)).trans ?_; (focus ((first | rfl | (simp; done) | (simp; omega) | (have h1 := e1.size; simp at h1 ⊢; omega) | (have h1 := e1.size; have h4 := e4.size; simp at h1 h4 ⊢; omega)); done))))); done); (focus refine fun k hk => (hf4 k hk).imp id (fun h => ?_); (first | omega | (simp at h; omega) | (have h1 := e1.size; simp at h h1; omega)); done); intro v8 w8 hk8 e8; have hne8 : ∀ g, v1.ownBlock = some g → ¬ (fun k => w1.heap.size ≤ k) g := (fun g hg z => Nat.not_le_of_lt (World.ownsRow.lt hv1 g hg).2 z); have e8n : Ext Nope w6 w8 := ?_; rotate_left; (focus refine Ext.trans ?_ e8 ?_; (focus (repeat (first | exact Ext.refl _ _ | exact e8n | refine Ext.drew ?_ | refine Ext.alloc ?_ _ | refine ext0 ?_ e9 | refine ext0 ?_ e4 | refine ext0 ?_ e1)); done); (focus intro i hi ht; have ht' : w1.heap.size ≤ i := ht; have h1 := e1.size; simp at h1; omega))))
        all_goals
          go_wp2_with fail
          go_meet
          exact ⟨rfl, (by repeat (first | exact Ext.refl _ _ | exact e8n | refine Ext.drew ?_ | refine Ext.alloc ?_ _ | refine ext0 ?_ e9 | refine ext0 ?_ e4 | refine ext0 ?_ e1))⟩
      case rest =>
        obtain ⟨rfl, e7⟩ := hcut
        have hM7 := hM6.ext0 e7
        have hV7 := hV6.ext e7
        have KX7 : RX wc X x := (e7.block X (lt_of_heap KX6) (fun z => z)).trans KX6
        have E7 := ext0 E6 e7
        obtain ⟨x0, x1, x2, x3, x4, x5⟩ := KX7.cells
        have hP := put_again hM7.ok rfl
        have HP := toHid2 hP
        clear hM6 hV6 KX6 E6 e7 hP
        go_wp2_with fail
        refine (map_put hM7 hM6l x.key x.size).mono ?_
        rw [HP.out]
        rintro e w8 ⟨u, rfl, hu, hM8, e8⟩
        obtain ⟨au, lu, cu, rfl⟩ := ownsRow_shape hu
        have hlu : lu = 0 := keysAt_len hu
        subst hlu
        have hV8 := hV7.ours e8
        have KX8 : RX w8 X x := ours_block e8 hXA5 KX7
        have E8 := ours_end E7 e8
        clear x0 x1 x2 x3 x4 x5 hM7 hV7 KX7 E7 e8 hu
        generalize hw8 : w8 = wp at *
        clear hw8
        go_wp2_with fail
        have SK : Hid (∀ w', Ext Nope wp w' → w'.cell? ⟨X, 0, none⟩ = some (.int .i64 x.key.f) ∧ w'.cell? ⟨X, 1, none⟩ = some (.int .i64 x.key.k) ∧ w'.cell? ⟨X, 2, none⟩ = some (.int .i64 x.key.n) ∧ w'.cell? ⟨X, 3, none⟩ = some (.int .i64 x.key.r)) := fun w' e => by
          obtain ⟨z0, z1, z2, z3, _⟩ := RX.cells (show RX w' X x from (e.block X (lt_of_heap KX8) (fun z => z)).trans KX8)
          exact ⟨z0, z1, z2, z3⟩
        have HLIST := toHid2 (fun (w' : World) (e : Ext Nope wp w') => map_list (hM8.ext0 e) hM6l)
        have HUSED := toHid2 (fun (w' : World) (e : Ext Nope wp w') => map_used (hM8.ext0 e))
        rw [HUS.out] at HUSED
        obtain ⟨⟨bv, hvw⟩, _⟩ := hV8
        have HV := toHid2 (fun (w' : World) (e : Ext Nope wp w') => hvw.ext2 e (fun _ _ z => z))
        have HKS3 : (keysK (xa ++ xb ++ [x])).length ≤ 1000000 ∧ ((keysK xa ++ keysK xb) ++ [x.key]).length ≤ 1000000 := by rw [HKS2.out.1, HKS2.out.2.1]; omega
        have HKS4 : Ending.returned (.bool (decide (keysK (xa ++ xb ++ [x]) = (keysK xa ++ keysK xb) ++ [x.key]))) = Ending.returned (.bool true) := by rw [HKS2.out.2.2]; simp
        have HKS5 : (keysK xa ++ keysK xb).length ≤ 1000 := by have := HKS2.out.2.1; rw [List.length_append] at this; omega
        clear hvw KX8 hM8
        go_region_held3 (fun w' => w'.cell? ⟨X, 0, none⟩ = some (.int .i64 x.key.f) ∧ w'.cell? ⟨X, 1, none⟩ = some (.int .i64 x.key.k) ∧ w'.cell? ⟨X, 2, none⟩ = some (.int .i64 x.key.n) ∧ w'.cell? ⟨X, 3, none⟩ = some (.int .i64 x.key.r))
          ((refine SK.out _ ?_; (repeat (first | exact Ext.refl _ _ | exact e8n | refine Ext.drew ?_ | refine Ext.alloc ?_ _ | refine ext0 ?_ e9 | refine ext0 ?_ e4 | refine ext0 ?_ e1))))
          (first
            | (go_at_call 18; refine (HLIST.out _ ?_).mono ?_; (focus (repeat (first | exact Ext.refl _ _ | exact e8n | refine Ext.drew ?_ | refine Ext.alloc ?_ _ | refine ext0 ?_ e9 | refine ext0 ?_ e4 | refine ext0 ?_ e1)); done); rintro e w1 ⟨v1, rfl, hv1, e1⟩)
            | (go_at_call 19; refine (HUSED.out _ ?_).mono ?_; (focus (repeat (first | exact Ext.refl _ _ | exact e8n | refine Ext.drew ?_ | refine Ext.alloc ?_ _ | refine ext0 ?_ e9 | refine ext0 ?_ e4 | refine ext0 ?_ e1)); done); rintro e wz ⟨rfl, rfl⟩)
            | (go_at_call 20; refine (same_walk (bp := 0) (ks := keysK (xa ++ xb ++ [x])) ?_ hk8 HKS3.1 HKS3.2).mono ?_; (focus (repeat (first | exact hv1.base (fun _ _ => Nat.zero_le _) | refine KeysAt.ext2 ?_ e8 hne8 | refine KeysAt.ext2 ?_ e4 (fun _ _ z => z) | refine KeysAt.ext2 ?_ ((Ext.refl Nope _).alloc _) (fun _ _ z => z))); done); rintro e w9 ⟨he, e9⟩; have he' : e = .returned (.bool true) := he.trans HKS4; clear he; subst he')
            | ((rw [if_pos (by rfl)]; refine wp_joinK (.tmp 136) (.tmp 137) rfl _ rfl ?_ _ rfl bv (keysK xa ++ keysK xb) ?_ HKS5 ?_; (focus (repeat (first | (refine heap_alloc_at _ _ _ ?_; (first | rfl | (simp; done) | (simp; omega) | (have h1 := e1.size; simp at h1 ⊢; omega) | (have h1 := e1.size; have h4 := e4.size; simp at h1 h4 ⊢; omega)); done) | (refine (heap_alloc_old _ _ _ ?_).trans ?_; (focus ((first | rfl | (simp; done) | (simp; omega) | (have h1 := e1.size; simp at h1 ⊢; omega) | (have h1 := e1.size; have h4 := e4.size; simp at h1 h4 ⊢; omega)); done))) | (refine (e1.block _ ?_ (fun z => z)).trans ?_; (focus ((first | rfl | (simp; done) | (simp; omega) | (have h1 := e1.size; simp at h1 ⊢; omega) | (have h1 := e1.size; have h4 := e4.size; simp at h1 h4 ⊢; omega)); done))) | (refine (e4.block _ ?_ (fun z => z)).trans ?_; (focus ((first | rfl | (simp; done) | (simp; omega) | (have h1 := e1.size; simp at h1 ⊢; omega) | (have h1 := e1.size; have h4 := e4.size; simp at h1 h4 ⊢; omega)); done))))); done); (focus refine HV.out _ ?_; (repeat (first | exact Ext.refl _ _ | exact e8n | refine Ext.drew ?_ | refine Ext.alloc ?_ _ | refine ext0 ?_ e9 | refine ext0 ?_ e4 | refine ext0 ?_ e1)); done); intro v4 w4 hk4 e4 hf4))
            | (rw [if_pos (by rfl)]; refine wp_snocK (.tmp 138) (.tmp 141) rfl v4 rfl (keysK xa ++ keysK xb) ?_ HKS5 _ rfl x.key ?_ (fun k => w1.heap.size ≤ k) ?_ ?_; (focus (first | exact hk4 | exact hk4.ext2 ((Ext.refl Nope _).alloc _) (fun _ _ z => z)); done); (focus (repeat (first | (refine heap_alloc_at _ _ _ ?_; (first | rfl | (simp; done) | (simp; omega) | (have h1 := e1.size; simp at h1 ⊢; omega) | (have h1 := e1.size; have h4 := e4.size; simp at h1 h4 ⊢; omega)); done) | (refine (heap_alloc_old _ _ _ ?_).trans ?_; (focus ((first | rfl | (simp; done) | (simp; omega) | (have h1 := e1.size; simp at h1 ⊢; omega) | (have h1 := e1.size; have h4 := e4.size; simp at h1 h4 ⊢; omega)); done))) | (refine (e1.block _ ?_ (fun z => z)).trans ?_; (focus ((first | rfl | (simp; done) | (simp; omega) | (have h1 := e1.size; simp at h1 ⊢; omega) | (have h1 := e1.size; have h4 := e4.size; simp at h1 h4 ⊢; omega)); done))) | (refine (e4.block _ ?_ (fun z => z)).trans ?_; (focus ((first | rfl | (simp; done) | (simp; omega) | (have h1 := e1.size; simp at h1 ⊢; omega) | (have h1 := e1.size; have h4 := e4.size; simp at h1 h4 ⊢; omega)); done))))); done); (focus refine fun k hk => (hf4 k hk).imp id (fun h => ?_); (first | omega | (simp at h; omega) | (have h1 := e1.size; simp at h h1; omega)); done); intro v8 w8 hk8 e8; have hne8 : ∀ g, v1.ownBlock = some g → ¬ (fun k => w1.heap.size ≤ k) g := (fun g hg z => Nat.not_le_of_lt (World.ownsRow.lt hv1 g hg).2 z); have e8n : Ext Nope wp w8 := ?_; rotate_left; (focus refine Ext.trans ?_ e8 ?_; (focus (repeat (first | exact Ext.refl _ _ | exact e8n | refine Ext.drew ?_ | refine Ext.alloc ?_ _ | refine ext0 ?_ e9 | refine ext0 ?_ e4 | refine ext0 ?_ e1)); done); (focus intro i hi ht; have ht' : w1.heap.size ≤ i := ht; have h1 := e1.size; simp at h1; omega))))
        all_goals
          have hEE : Ext Nope W w9 := ext0 E8 (by repeat (first | exact Ext.refl _ _ | exact e8n | refine Ext.drew ?_ | refine Ext.alloc ?_ _ | refine ext0 ?_ e9 | refine ext0 ?_ e4 | refine ext0 ?_ e1))
          go_wp2
          go_ret
          exact ⟨rfl, hEE⟩
end Go.Proofs.Ytkloaadaicklfaa
