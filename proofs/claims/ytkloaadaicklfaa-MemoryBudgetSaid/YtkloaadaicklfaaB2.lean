/-
  What MemoryBudget computes: true.
-/
import Derived.Test.YtkloaadaicklfaaB1
import Derived.Deep.DeepCutAuto
import Derived.Deep.CutBlock
namespace Go.Proofs.Ytkloaadaicklfaa
open Go.RowKit
attribute [local go_sem] alloc_drewN setCell_drewN

set_option maxRecDepth 100000 in
set_option maxHeartbeats 8000000 in
theorem budget_calls (n : Int) (n0 : 0 ≤ n) (n1 : n ≤ 255) (W : World) (a : Option Addr) (len cap : Nat) (ha : ActsAt W a len) (hlen : len ≤ 9223372036854775807) :
    Calls Try.prog 4 #[.int .u8 n, .slice a len cap] W fun e w' => e = .returned (.bool true) ∧ Ext Nope W w' := by
  have m0 : 0 ≤ n % 64 := by omega
  have m1 : n % 64 ≤ 1073741824 := by omega
  have m2 : n % 64 ≤ 63 := by omega
  have hmm := @run_makeMap Try.prog
  go_enter Try.func4, Try.ntmps4
  go_wp2_with fail
  refine (sanity_calls _).mono ?_
  rintro e w1 ⟨rfl, E1⟩
  go_wp2_with fail
  refine (map_new (n % 64) W w1 E1.size m0 m1).mono ?_
  rintro e w2 ⟨bm, rfl, hM, e2⟩
  have E2 := ext0 E1 e2
  have hr0 : W.heap.size ≤ w2.heap.size := E2.size
  clear E1 e2
  go_wp2_with fail
  have K3 : MapAs (w2.alloc (.map #[] 0)) w2.heap.size [] := ⟨#[], 0, heap_alloc_new _ _, rfl⟩
  have hM3 := hM.also ((Ext.refl Nope w2).alloc (.map #[] 0))
  have hAr : Also (fun b => b < w1.heap.size) w2 (w2.alloc (.map #[] 0)) w2.heap.size := .inr ⟨Nat.le_refl _, by simp⟩
  have E3 : Ext Nope W (w2.alloc (.map #[] 0)) := E2.alloc _
  clear hM E2 hmm
  generalize Also (fun b => b < w1.heap.size) w2 (w2.alloc (.map #[] 0)) = A at *
  generalize w2.alloc (.map #[] 0) = w3 at *
  generalize w2.heap.size = r at *
  have hR0 : RB W A bm r (n % 64) 0 w3 := ⟨[], [], by simp, hM3, K3, ⟨by simp, fun o => by simp [mget_nil, szK, getK]⟩, E3⟩
  clear hM3 K3 E3
  go_loopw [9] (fun i wr => ∃ k : Nat, i = .int .i64 k ∧ k ≤ 60 ∧ k ≤ len ∧ RB W A bm r (n % 64) k wr) (fun i _ => 60 - (intOf i).toNat)
  case atStart => exact ⟨0, rfl, by omega, by omega, hR0⟩
  case round =>
    obtain ⟨k, rfl, hk6, hkl, xs, l, hxl, hM, hm, hs, E⟩ := hrel
    clear hR0
    by_cases hk : k < len ∧ k < 60
    · obtain ⟨hk1, hk2⟩ := hk
      obtain ⟨b, off, rfl, hbW0, hb, wh, nn, s, ⟨w0', w1'⟩, ⟨n0', n1'⟩, _, c0, c1, c2⟩ := acts_at ha E hk1
      have q0 : 0 ≤ nn % 9 := by omega
      have q1 : nn % 9 ≤ 1000 := by omega
      clear ha
      go_wp2_with fail
      refine (key_calls (nn % 9) _ q0 q1).mono ?_
      rintro e w7 ⟨rfl, e7⟩
      obtain ⟨d0, d1, d2⟩ := act_cells (e7.block b hb (fun z => z)) c0 c1 c2
      have hb7 : b < w7.heap.size := Nat.lt_of_lt_of_le hb e7.size
      clear c0 c1 c2
      have KX : (w7.alloc (.cells (ownCells (keyA (nn % 9))) 34 (0, 0))).heap[w7.heap.size]? = some (.cells (ownCells (keyA (nn % 9))) 34 (0, 0)) := heap_alloc_new _ _
      have e8 : Ext Nope wr (w7.alloc (.cells (ownCells (keyA (nn % 9))) 34 (0, 0))) := e7.alloc _
      have hM8 := hM.also e8
      have hm8 := hm.ext e8 (fun z => z)
      have E8 := ext0 E e8
      have hXA : Also A wr (w7.alloc (.cells (ownCells (keyA (nn % 9))) 34 (0, 0))) w7.heap.size := .inr ⟨e7.size, by simp⟩
      have hXr : w7.heap.size ≠ r := fun z => by have := e7.size; have := hm.lt; omega
      have hAA : ∀ b, A b → Also A wr (w7.alloc (.cells (ownCells (keyA (nn % 9))) 34 (0, 0))) b := fun _ z => .inl z
      have hbk8 : (w7.alloc (.cells (ownCells (keyA (nn % 9))) 34 (0, 0))).heap[b]? = w7.heap[b]? := heap_alloc_old _ _ _ hb7
      have hlt8 : w7.heap.size < (w7.alloc (.cells (ownCells (keyA (nn % 9))) 34 (0, 0))).heap.size := by simp
      have hbW : b < W.heap.size := hbW0
      have hlb8 : b < (w7.alloc (.cells (ownCells (keyA (nn % 9))) 34 (0, 0))).heap.size := by simp; omega
      have D2 : (w7.alloc (.cells (ownCells (keyA (nn % 9))) 34 (0, 0))).cell? ⟨b, off + k * 3 + 2, none⟩ = some (.int .i64 s) := (World.cell?_of_block (w := w7) hbk8).trans d2
      clear hM hm E e7 e8 hb
      go_upto_block 2 with fail
      generalize w7.alloc (.cells (ownCells (keyA (nn % 9))) 34 (0, 0)) = w8 at *
      generalize w7.heap.size = X at *
      clear d0 d1 d2 hb7 hbk8
      go_cut [] (fun wx => RB W A bm r (n % 64) (k + 1) wx)
      case first =>
        by_cases h3 : wh % 6 = 3
        · have t3 : (wh % 6 == 3) = true := by simp [h3]
          clear h3
          obtain ⟨x0, x1, x2, x3⟩ := cells_of KX
          obtain ⟨z, hz⟩ : ∃ z, szK xs (keyA (nn % 9)) = z := ⟨_, rfl⟩
          have hl := lookB hm8 hs (keyA (nn % 9)) hz
          have hU := use_there xs (keyA (nn % 9))
          rw [hz] at hU
          have hR9 := fun (w9 : World) h1 h2 => RB.use (bm := bm) (w8 := w8) (w9 := w9) hAA hAr E8 hm8 hs hM8.ok (Nat.le_succ_of_le hxl) (keyA (nn % 9)) h1 h2
          have HC := map_use hM8 (keyA (nn % 9))
          rw [hU] at HC
          clear hU hz D2 hM8 hm8 hs E8
          generalize z.isSome = zb at *
          generalize z.getD 0 = zv at *
          have HC' := toHid2 HC
          have HR' := toHid2 hR9
          clear HC hR9 KX
          cases zb
          all_goals
            go_wp2_with fail
            refine HC'.out.mono ?_
            rintro e w9 ⟨rfl, hM9, e9⟩
            have hR := HR'.out _ hM9 e9
            clear hM9 e9 HR' HC' hl x0 x1 x2 x3
            go_wp2_with fail
            go_meet
            exact hR
        by_cases h4 : wh % 6 = 4
        · have t3 : (wh % 6 == 3) = false := by simp [h4]
          have t4 : (wh % 6 == 4) = true := by simp [h4]
          clear h3 h4
          go_wp2
          have HM : ∀ w', Ext Nope w8 w' → MAp W (Also A wr w8) w' bm (n % 64) xs := fun w' e => hM8.ext0 e
          obtain ⟨x0, x1, x2, x3⟩ := cells_of KX
          have HR := fun (w8' w9 : World) (E : Ext Nope w8 w8') h1 h2 => RB.pin (bm := bm) (w8 := w8') (w9 := w9) hAA hAr (ext0 E8 E) (hm8.ext E (fun z => z)) hs hM8.ok (Nat.le_succ_of_le hxl) (keyA (nn % 9)) (s.tmod 2 == 0) h1 h2
          have HR' := toHid2 HR
          clear hM8 HR
          go_region_held3 (fun w' => w'.cell? ⟨X, 0, none⟩ = some (.int .i64 (keyA (nn % 9)).f) ∧ w'.cell? ⟨X, 1, none⟩ = some (.int .i64 (keyA (nn % 9)).k) ∧ w'.cell? ⟨X, 2, none⟩ = some (.int .i64 (keyA (nn % 9)).n) ∧ w'.cell? ⟨X, 3, none⟩ = some (.int .i64 (keyA (nn % 9)).r) ∧ w'.cell? ⟨b, off + k * 3 + 2, none⟩ = some (.int .i64 s)) (first | go_keep | exact keep5 e9 hXA hbW (by simp; omega) (by simp; omega) (by first | assumption | go_keep))
                    (first
                      | (go_at_call 15; refine (map_pin (HM _ (by repeat (first | exact Ext.refl _ _ | refine Ext.drew ?_ | refine Ext.alloc ?_ _))) (keyA (nn % 9)) (s.tmod 2 == 0)).mono ?_; rintro e w9 ⟨rfl, hM9, e9⟩))
          all_goals
            have hR := HR'.out _ _ (by repeat (first | exact Ext.refl _ _ | refine Ext.drew ?_ | refine Ext.alloc ?_ _)) hM9 e9
            clear KX D2 x0 x1 x2 x3 HM HR' e9 hM9
            go_wp2
            go_meet
            exact hR
        by_cases h5 : wh % 6 = 5
        · have t3 : (wh % 6 == 3) = false := by simp [h5]
          have t4 : (wh % 6 == 4) = false := by simp [h5]
          have t5 : (wh % 6 == 5) = true := by simp [h5]
          clear h3 h4 h5
          obtain ⟨x0, x1, x2, x3⟩ := cells_of KX
          have HC := map_drop hM8 (keyA (nn % 9))
          rcases drop_cases xs (keyA (nn % 9)) with ⟨h0, h1⟩ | ⟨h0, h1⟩
          · rw [h0, h1] at HC
            clear h0 h1
            go_wp2_with fail
            refine HC.mono ?_
            rintro e w9 ⟨rfl, hM9, e9⟩
            have hm9 := hm8.ext e9 (fun z => z.2 (hAA r hAr))
            have E9 := ours_end E8 e9
            obtain ⟨y0, y1, y2, y3⟩ := cells_of (ours_block e9 hXA KX)
            obtain ⟨w10, hdel, hm10, e10⟩ := delB hm9 (keyA (nn % 9))
            have hR := RB.drop hAA hAr hr0 E9 hs hM8.ok (Nat.le_succ_of_le hxl) (keyA (nn % 9)) hM9 hm10 e10
            clear HC hM9 hm9 e9 E9 hm10 e10 hM8 hm8 hs E8 x0 x1 x2 x3 KX D2
            go_wp2_with fail
            go_meet
            exact hR
          · have t0 : ((dropA xs (keyA (nn % 9))).1 == 0) = false := by simp [h0]
            rw [h1] at HC
            clear h0 h1
            go_wp2_with fail
            refine HC.mono ?_
            rintro e w9 ⟨rfl, hM9, e9⟩
            have hR := RB.kept hAA hAr E8 hm8 hs (Nat.le_succ_of_le hxl) hM9 e9
            clear HC hM9 e9 hM8 hm8 hs E8 x0 x1 x2 x3 KX D2
            go_wp2_with fail
            go_meet
            exact hR
        · have t3 : (wh % 6 == 3) = false := by simp [h3]
          have t4 : (wh % 6 == 4) = false := by simp [h4]
          have t5 : (wh % 6 == 5) = false := by simp [h5]
          clear h3 h4 h5
          go_wp2
          have HM : ∀ w', Ext Nope w8 w' → MAp W (Also A wr w8) w' bm (n % 64) xs := fun w' e => hM8.ext0 e
          obtain ⟨x0, x1, x2, x3⟩ := cells_of KX
          have HK := toHid2 hM8.ok
          have HS := toHid2 hs
          have hr8 := hm8.lt
          clear hM8 hs
          go_region_held3 (fun w' => w'.cell? ⟨X, 0, none⟩ = some (.int .i64 (keyA (nn % 9)).f) ∧ w'.cell? ⟨X, 1, none⟩ = some (.int .i64 (keyA (nn % 9)).k) ∧ w'.cell? ⟨X, 2, none⟩ = some (.int .i64 (keyA (nn % 9)).n) ∧ w'.cell? ⟨X, 3, none⟩ = some (.int .i64 (keyA (nn % 9)).r) ∧ w'.cell? ⟨b, off + k * 3 + 2, none⟩ = some (.int .i64 s)) (first | go_keep | exact keep5 e9 hXA hbW (by simp; omega) (by simp; omega) (by first | assumption | go_keep))
            (first
              | (go_at_call 17; refine (map_put (HM _ (by repeat (first | exact Ext.refl _ _ | refine Ext.drew ?_ | refine Ext.alloc ?_ _))) (by omega) (keyA (nn % 9)) s).mono ?_; rintro e w9 ⟨u, rfl, hu, hM9, e9⟩))
          all_goals
            have E9 := ours_end (ext0 E8 (by repeat (first | exact Ext.refl _ _ | refine Ext.drew ?_ | refine Ext.alloc ?_ _))) e9
            have hm9 := (hm8.ext (w' := _) (S := Nope) (by repeat (first | exact Ext.refl _ _ | refine Ext.drew ?_ | refine Ext.alloc ?_ _)) (fun z => z)).ext e9 (fun z => z.2 (hAA r hAr))
            have KX9 := ours_block e9 hXA (show _ = some (.cells (ownCells (keyA (nn % 9))) 34 (0, 0)) from KX)
            have hblk : w9.heap[b]? = w8.heap[b]? := e9.block b (by simp; omega) (fun z => by have := z.1; omega)
            have d9 : w9.cell? ⟨b, off + k * 3 + 2, none⟩ = some (.int .i64 s) := (World.cell?_of_block (w := w8) hblk).trans D2
            have hlX9 := lt_of_heap KX9
            have hlb9 := World.block_lt_of_cell? _ _ d9
            have hgr : ∀ g, u.ownBlock = some g → g ≠ r := fun g hg z => by have := (hu.lt g hg).1; simp at this; omega
            clear x0 x1 x2 x3 KX D2 HM e9 hm8 E8 hblk hXA
            by_cases he : (putA (n % 64) xs (keyA (nn % 9)) s).2.1 = 0
            · have HD := fun (w : World) (h : Giving W A bm r (n % 64) xs (keyA (nn % 9)) s (putA (n % 64) xs (keyA (nn % 9)) s).1 w9 w) => h.done he hAA hAr hr0 E9 HK.out hxl hM9
              have HG := fun (a b : List Own) (y : Own) h => put_gone HK.out (keyA (nn % 9)) s (a := a) (b := b) (y := y) h
              have HD' := toHid2 HD
              have KX9' := KX9
              have HG' := toHid2 HG
              rw [he]
              clear HD HG hM9 he HK
              generalize (putA (n % 64) xs (keyA (nn % 9)) s).1 = gs at *
              generalize (putA (n % 64) xs (keyA (nn % 9)) s) = P at *
              obtain ⟨w10, hup, hm10, e10⟩ := updB (w := w9.drew) (hm9.of rfl) (keyA (nn % 9)) (.int .i64 s)
              have HG0 := toHid2 (Giving.start (W := W) (A := A) (bm := bm) (B := n % 64) HS.out (keyA (nn % 9)) s hm10 ((Ext.refl _ w9).drew.trans e10 (fun _ _ z => z)))
              obtain ⟨x0, x1, x2, x3⟩ := cells_of KX9
              clear hm10 hm9 E9 HS
              go_wp2
              go_region_held3 (fun w' => w'.cell? ⟨X, 0, none⟩ = some (.int .i64 (keyA (nn % 9)).f) ∧ w'.cell? ⟨X, 1, none⟩ = some (.int .i64 (keyA (nn % 9)).k) ∧ w'.cell? ⟨X, 2, none⟩ = some (.int .i64 (keyA (nn % 9)).n) ∧ w'.cell? ⟨X, 3, none⟩ = some (.int .i64 (keyA (nn % 9)).r) ∧ w'.cell? ⟨b, off + k * 3 + 2, none⟩ = some (.int .i64 s)) (first | go_keep | exact keepR e10 hXr (by omega) (by simpa using hlX9) (by simpa using hlb9) (by first | assumption | go_keep)) (first | fail)
              all_goals
                have hlX10 := Nat.lt_of_lt_of_le (show X < w9.drew.heap.size by simpa using hlX9) e10.size
                have hKX10 := (e10.block X (by simpa using hlX9) hXr).trans (show w9.drew.heap[X]? = _ from KX9)
                clear x0 x1 x2 x3 hup d9 hlb9 hlX9 KX9 hKX10 hlX10
                obtain ⟨m, HN⟩ : ∃ m, Hid (gs.length = m) := ⟨_, rfl⟩
                have hsh := keysAt_shape hu
                rw [HN.out] at hsh
                rcases hsh with ⟨rfl, h0⟩ | ⟨gu, cu, rfl, hcu, hmu⟩
                · have hR := HD'.out _ (by rw [h0]; exact HG0.out)
                  clear h0 HG' HD' HN HG0 hu e10
                  go_wp2
                  refine wp_loop_rounds 1 ?_
                  rw [rounds_succ]
                  go_wp2
                  go_meet
                  exact hR
                · unfold maxLen at hmu
                  go_wp2
                  go_loopw [78] (fun i wv => ∃ j : Nat, i = .int .i64 j ∧ j ≤ m ∧ Giving W A bm r (n % 64) xs (keyA (nn % 9)) s (gs.take j) w9 wv) (fun i _ => m - (intOf i).toNat)
                  case atStart => exact ⟨0, rfl, by omega, HG0.out⟩
                  case round =>
                    obtain ⟨j, rfl, hj, hGv⟩ := hrel
                    by_cases hjm : j < m
                    · obtain ⟨y, a1, a2, hy, hyl⟩ := nth_split (xs := gs) (k := j) (by rw [HN.out]; exact hjm)
                      obtain ⟨⟨lv, hmv, hsv⟩, hEv⟩ := hGv
                      obtain ⟨hyo, hya, z, hz⟩ := HG'.out _ _ _ hy
                      obtain ⟨ht1, ht2⟩ := take_len hy hyl
                      rw [ht1] at hsv
                      obtain ⟨y0, y1, y2, y3⟩ := key_cells (hu.ext2 hEv (fun g hg => hgr g hg)) hy
                      rw [hyl] at y0 y1 y2 y3
                      obtain ⟨o0, o1, o2, o3⟩ := cells_of ((hEv.block X (by simpa using lt_of_heap KX9') hXr).trans KX9')
                      have hgf : GoneF xs (keyA (nn % 9)) s a1 y = some z := (goneF_at hya hyo).trans hz
                      have hma := hmv.of (w' := wr.alloc (.cells (ownCells y) 34 (0, 0))) (heap_alloc_old _ _ _ hmv.lt)
                      have hl := lookB hma hsv y hgf
                      have heq : ∀ W', (Op.equalIn 10000 34 (.agg #[.int .i64 y.f, .int .i64 y.k, .int .i64 y.n, .int .i64 y.r]) (.agg #[.int .i64 (keyA (nn % 9)).f, .int .i64 (keyA (nn % 9)).k, .int .i64 (keyA (nn % 9)).n, .int .i64 (keyA (nn % 9)).r])).run Try.prog W' = .ok false W' := fun W' => (eq34 y (keyA (nn % 9)) W').trans (by simp [hyo])
                      obtain ⟨w11, hdel, hm11, e11⟩ := delB hma y
                      have hGn := Giving.step (W := W) (A := A) (bm := bm) (B := n % 64) (hEv.alloc (.cells (ownCells y) 34 (0, 0))) hsv y hm11 e11
                      have hglt := World.block_lt_of_cell? _ _ y0
                      have hXlt := World.block_lt_of_cell? _ _ o0
                      rw [← ht2] at hGn
                      have HGn := toHid2 hGn
                      clear hy hyl hu hEv hsv hma hm11 e11 hgf hz hya hyo ht1 ht2 hmv HD' HG' HG0 hGn
                      go_wp2
                      go_roundw
                      case rel => exact ⟨j + 1, by go_num, by omega, HGn.out⟩
                      case measure => simp [intOf]; omega
                    · have hjj : j = m := by omega
                      subst hjj
                      have hR := HD'.out _ (by rw [← HN.out, List.take_length] at hGv; exact hGv)
                      clear hGv HD' HG' HG0 hu
                      go_wp2
                      go_meet
                      exact hR
            · have t0 : ((putA (n % 64) xs (keyA (nn % 9)) s).2.1 == 0) = false := by simp [he]
              obtain ⟨h1, h2⟩ := put_nothing HK.out he
              rw [h2] at hM9
              have hR : RB W A bm r (n % 64) (k + 1) w9 := ⟨xs, l, by omega, hM9.weak hAA, hm9, HS.out, E9⟩
              rw [h1] at hu
              have hsh := keysAt_shape hu
              clear he h1 h2 hM9 hu HK HS hm9 E9 KX9 hgr
              generalize (putA (n % 64) xs (keyA (nn % 9)) s) = P at *
              rcases hsh with ⟨rfl, _⟩ | ⟨gu, cu, rfl, _, _⟩
              all_goals
                go_wp2
                refine wp_loop_rounds 1 ?_
                rw [rounds_succ]
                go_wp2
                go_meet
                exact hR
      case rest =>
        obtain ⟨xs', l', hxl', hM', hm', hs', E'⟩ := hcut
        clear hM8 hm8 hs E8 KX D2 hAA hXA
        go_wp2_with fail
        refine (map_list hM' (by omega)).mono ?_
        rintro e wl ⟨v, rfl, hv, e2⟩
        have El := ext0 E' e2
        have hMl := hM'.ext0 e2
        have hml := hm'.ext e2 (fun z => z)
        have HLEN := hs'.length hM'.ok.keys
        have HU := fun j => used_le hM'.ok j
        have HKY := hM'.ok.keys
        obtain ⟨m, hm0⟩ : ∃ m, xs'.length = m := ⟨_, rfl⟩
        have hkl' : (keysK xs').length = m := by simpa [keysK] using hm0
        rw [hm0] at HLEN
        have HU' := toHid2 HU
        have HKY' := toHid2 HKY
        have HLEN' := toHid2 HLEN
        have HM0 := toHid2 hm0
        have hsh := keysAt_shape hv
        rw [hkl'] at hsh
        clear hkl' HLEN HU HKY hM' hm' E' e2 hm0
        have HT : Hid (usedOf xs' ≤ n % 64 ∧ 0 ≤ usedOf xs') := by have := HU'.out m; rw [← HM0.out, List.take_length] at this; exact ⟨this.2, this.1⟩
        have hm60 : m ≤ 60 := by have := HM0.out; omega
        rcases hsh with ⟨rfl, h0⟩ | ⟨gu, cu, rfl, hcu, hmu⟩
        · have hx0 : xs' = [] := by simpa [keysK] using h0
          subst hx0
          have hm00 : m = 0 := by have := HM0.out; simpa using this.symm
          subst hm00
          have hlen0 := fun (ty : TypeId) => run_len34 (ty := ty) Try.underlying30 hml
          rw [HLEN'.out] at hlen0
          go_wp2
          refine wp_loop_rounds 1 ?_
          rw [rounds_succ]
          go_wp2_with fail
          refine (map_used hMl).mono ?_
          rintro e wz ⟨rfl, rfl⟩
          have hRl : RB W A bm r (n % 64) (k + 1) wl := ⟨[], l', by simp, hMl, hml, hs', El⟩
          rw [show usedOf [] = 0 from rfl]
          clear hMl hml hs' El hlen0 HT HU' HKY' hv h0
          go_wp2
          go_roundw
          case rel => exact ⟨k + 1, by go_num, by omega, by omega, hRl⟩
          case measure => simp [intOf]; omega
        · unfold maxLen at hmu
          go_wp2
          go_loopw [19, 135] (fun sm i wv => ∃ j : Nat, i = .int .i64 j ∧ j ≤ m ∧ sm = .int .i64 (usedOf (xs'.take j)) ∧ Ext Nope wl wv) (fun _ i _ => m - (intOf i).toNat)
          case atStart => exact ⟨0, rfl, by omega, rfl, Ext.refl _ _⟩
          case round =>
            obtain ⟨j, rfl, hj, rfl, hEv⟩ := hrel
            have hu1 := HU'.out j
            obtain ⟨u0, u1⟩ := hu1
            by_cases hjm : j < m
            · obtain ⟨x, a1, a2, hx, hxl2⟩ := nth_split (xs := xs') (k := j) (by rw [HM0.out]; exact hjm)
              obtain ⟨y0, y1, y2, y3⟩ := key_cells (a := keysK a1) (b := keysK a2) (o := x.key) (hv.ext2 hEv (fun _ _ z => z)) (by rw [hx]; simp [keysK])
              rw [show (keysK a1).length = j by simpa [keysK] using hxl2] at y0 y1 y2 y3
              have hma := (hml.ext hEv (fun z => z)).of (w' := wr.alloc (.cells (ownCells x.key) 34 (0, 0))) (heap_alloc_old _ _ _ (hml.ext hEv (fun z => z)).lt)
              have hl := lookB hma hs' x.key (szK_at HKY'.out hx)
              simp only [Option.getD_some, Option.isSome_some] at hl
              have hsum := used_take hx hxl2
              have hu2 := HU'.out (j + 1)
              rw [hsum] at hu2
              obtain ⟨u2, u3⟩ := hu2
              have hglt := World.block_lt_of_cell? _ _ y0
              have HSUM := toHid2 hsum
              obtain ⟨sz, hsz⟩ : ∃ sz, x.size = sz := ⟨_, rfl⟩
              rw [hsz] at hl u2 u3 HSUM
              obtain ⟨us, hus⟩ : ∃ us, usedOf (xs'.take j) = us := ⟨_, rfl⟩
              rw [hus] at u0 u1 u2 u3 HSUM
              have v1 : -9223372036854775808 ≤ us + sz := by omega
              have v2 : us + sz ≤ 9223372036854775807 := by omega
              rw [hus]
              clear hx hxl2 hma hsz hus hv hsum hs'
              go_wp2
              go_roundw
              case rel => exact ⟨j + 1, by go_num, by omega, by rw [HSUM.out], hEv.alloc _⟩
              case measure => simp [intOf]; omega
            · have hjj : j = m := by omega
              subst hjj
              have hMe := hMl.ext0 hEv
              have hme := hml.ext hEv (fun z => z)
              have hRl : RB W A bm r (n % 64) (k + 1) wr := ⟨xs', l', hxl', hMe, hme, hs', ext0 El hEv⟩
              have hlen0 := fun (ty : TypeId) => run_len34 (ty := ty) Try.underlying30 hme
              rw [HLEN'.out] at hlen0
              have HC := toHid2 (map_used hMe)
              rw [show xs'.take j = xs' by rw [← HM0.out, List.take_length]]
              have hT1 := HT.out.1
              have hT0 := HT.out.2
              obtain ⟨us, hus⟩ : ∃ us, usedOf xs' = us := ⟨_, rfl⟩
              rw [hus] at HC hT1 hT0 ⊢
              have hT2 : ¬ n % 64 < us := by omega
              clear hus u0 u1 hMe hme hMl hml hs' hv El hEv
              go_wp2_with fail
              refine HC.out.mono ?_
              rintro e wz ⟨rfl, rfl⟩
              clear hlen0 HC
              go_wp2
              go_roundw
              case rel => exact ⟨k + 1, by go_num, by omega, by omega, hRl⟩
              case measure => simp [intOf]; omega
    · have hrest : (k < len) = true → ¬ k < 60 := fun h1 h2 => hk ⟨by simpa using h1, h2⟩
      clear hM hm hs ha
      by_cases hkk : k < len
      · have h60 : ¬ k < 60 := fun z => hk ⟨hkk, z⟩
        clear hk hrest
        go_wp2
        go_ret
        exact ⟨rfl, E⟩
      · clear hk hrest
        go_wp2
        go_ret
        exact ⟨rfl, E⟩
end Go.Proofs.Ytkloaadaicklfaa
