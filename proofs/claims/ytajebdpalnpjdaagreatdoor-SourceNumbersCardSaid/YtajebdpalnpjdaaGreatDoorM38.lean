/-
  sets.Right; what font.CheckCore asks of a head.
  slices.Grow and slices.Concat of lists of sets.
  rules.context, rules.wrongSet, and what is asked of sets and calls.
-/
import Derived.Test.YtajebdpalnpjdaaGreatDoorM37
import Derived.Test.YtajebdpalnpjdaaGreatDoorM27
import Derived.Test.YtajebdpalnpjdaaGreatDoorM29
namespace Go.Proofs.YtajebdpalnpjdaaGreatDoor
open Go.RowKit
attribute [local go_sem] alloc_drewN setCell_drewN

theorem anyN_false : ∀ n, anyN (fun _ => false) n = false
  | 0 => rfl
  | n + 1 => by
    unfold anyN
    rw [anyN_false n]
    rfl
theorem cell_keep {w W : World} {a : Addr} {u : Value} (e : Ext Nope w W) (h : w.cell? a = some u) : W.cell? a = some u := (World.cell?_of_block (w := w) (e.block _ (World.block_lt_of_cell? _ _ h) (fun z => z))).trans h
set_option maxHeartbeats 2000000 in
/-- sets.Right of a set -/
theorem right_calls {w : World} {A : Nat → Prop} {v : Value} {l : List Int} (h : Rd A w [v] (intsD l)) (hs : Incr l) (hl : l.length ≤ 100000) :
    Calls Tryz.prog 159 #[v] w fun e w' => e = .returned (.bool true) ∧ Ext Nope w w' := by
  have HS := toHid hs
  obtain ⟨av, cv, hv, hc1, hc2, _, hat⟩ := h.ints_inv
  have HAT := toHid hat
  obtain ⟨n, HN⟩ : ∃ n, Hid (l.length = n) := ⟨_, rfl⟩
  rw [HN.out] at hv hl hc1
  subst hv
  clear h hs hat
  go_enter Tryz.func159, Tryz.ntmps159
  go_wp2_with fail
  go_loopw [3] (fun i wr => ∃ k : Nat, i = .int .i64 ((k : Int) + 1) ∧ k ≤ n ∧ Ext Nope w wr) (fun i _ => n + 1 - (intOf i).toNat)
  case atStart => exact ⟨0, rfl, Nat.zero_le _, Ext.refl _ _⟩
  case round =>
    obtain ⟨k, rfl, hk, hE⟩ := hrel
    rename World => wr
    have s1 : IntKind.i64.wrap ((k : Int) + 1 + 1) = (k : Int) + 1 + 1 := IntWalk.i64_in _ (by omega)
    by_cases hkn : k + 1 < n
    · obtain ⟨x, hx⟩ := nth_some (k := k) (by omega) HN.out
      obtain ⟨y, hy⟩ := nth_some hkn HN.out
      obtain ⟨b, off, rfl, _, hb, hcells⟩ := HAT.out (by rw [HN.out]; omega)
      have c0 : wr.cell? ⟨b, off + k, none⟩ = some (.int .i64 x) := cell_keep hE (hcells k x hx)
      have c1 : wr.cell? ⟨b, off + (k + 1), none⟩ = some (.int .i64 y) := cell_keep hE (hcells (k + 1) y hy)
      have hxy : x < y := by
        have h1 := (List.getElem?_eq_some_iff.1 hx).1
        have h2 := (List.getElem?_eq_some_iff.1 hy).1
        have := List.pairwise_iff_getElem.1 HS.out k (k + 1) h1 h2 (by omega)
        rwa [(List.getElem?_eq_some_iff.1 hx).2, (List.getElem?_eq_some_iff.1 hy).2] at this
      have hyx : ¬ (y ≤ x) := by omega
      have HE := toHid hE
      have s2 : (k : Int) + 1 < (n : Int) := by omega
      have s3 : IntKind.i64.wrap (k : Int) = (k : Int) := IntWalk.i64_in _ (by omega)
      have s4 : (k : Int) < (n : Int) := by omega
      have s5 : (0 : Int) ≤ (k : Int) := by omega
      have s6 : (0 : Int) ≤ (k : Int) + 1 := by omega
      have s7 : ((k : Int) + 1).toNat = k + 1 := by omega
      clear hE hx hy hcells hb
      go_wp2_with fail
      go_quiet (fail)
      go_wp2_with fail
      go_roundw
      case rel => exact ⟨k + 1, by go_num, by omega, HE.out.drewN _⟩
      case measure => simp [intOf]; omega
    · have s2 : ¬ ((k : Int) + 1 < (n : Int)) := by omega
      have HE := toHid hE
      clear hE
      go_wp2
      go_ret
      exact ⟨rfl, HE.out⟩
theorem ent_right : Enters 159 := enters_of Tryz.func159 (by kernel_rfl) rfl
theorem ent_heads11 : Enters 161 := enters_of Tryz.func161 (by kernel_rfl) rfl
/-- A glyph of a head's. -/
theorem head_glyph {w : World} {f : CV} {bb : Nat} (hz : w.heap[bb]? = some (.cells f.cells 32 (0, 0))) (hc : 1 ≤ f.cnt ∧ f.cnt ≤ 100) {g : Int} (hg : 0 ≤ g ∧ g ≤ f.cnt - 1) :
    Calls Tryz.prog 161 #[.int .i64 g, ptr bb] w fun e w' => e = .returned (.bool false) ∧ w = w' := by
  obtain ⟨ver, cnt, a5, n5, k5, a7, n7, k7⟩ := f
  obtain ⟨c0, c1, c2, c3, c4, c5, c6, c7, c8⟩ := core_cells hz
  have hc : 1 ≤ cnt ∧ cnt ≤ 100 := hc
  have hg : 0 ≤ g ∧ g ≤ cnt - 1 := hg
  have HW := toHid (fun W => fwithin_calls g 0 (cnt - 1) W)
  have s1 : IntKind.i64.wrap (cnt - 1) = cnt - 1 := IntWalk.i64_in _ (by omega)
  have hd : (decide ((0 : Int) ≤ g) && decide (g ≤ cnt - 1)) = true := by simp; omega
  rw [hd] at HW
  clear hd hz
  go_enter Tryz.func161, Tryz.ntmps161
  go_wp2_with fail
  refine (HW.out _).mono ?_
  rintro e w2 ⟨rfl, rfl⟩
  go_wp2
  go_ret
  exact ⟨rfl, rfl⟩
set_option maxRecDepth 100000 in
set_option maxHeartbeats 2000000 in
/-- What font.heads asks of a head. -/
theorem head_closure {w : World} {f : CV} {bb : Nat} (hz : w.heap[bb]? = some (.cells f.cells 32 (0, 0))) (hc : 1 ≤ f.cnt ∧ f.cnt ≤ 100) {A : Nat → Prop} {hd : HeadA} {cs : List Value} (hr : Rd A w cs (headD hd)) (h1 : 0 ≤ hd.feature ∧ hd.feature ≤ 9) (hs : Incr hd.first) (hl : hd.first.length ≤ 100000) (hin : ∀ g ∈ hd.first, 0 ≤ g ∧ g ≤ f.cnt - 1) (k : Nat) :
    Calls Tryz.prog 158 #[.int .i64 k, .agg cs.toArray, ptr bb] w fun e w' => e = .returned (.int .i64 0) ∧ Ext Nope w w' := by
  obtain ⟨_, rfl, _, hr⟩ := hr.ri
  obtain ⟨v, _, rfl, hv, hr⟩ := hr.rl
  obtain rfl := hr.r_nil
  obtain ⟨av, cv, hv1, _⟩ := hv.len
  rw [List.length_map] at hv1
  have HW := toHid (fun W => fwithin_calls hd.feature 0 9 W)
  have hdd : (decide ((0 : Int) ≤ hd.feature) && decide (hd.feature ≤ 9)) = true := by simp; omega
  rw [hdd] at HW
  have HV := toHid (show Rd A w [v] (intsD hd.first) from hv)
  have HR := toHid (show ∀ W, Ext Nope w W → _ from fun W e => right_calls (HV.out.ext0 e) hs hl)
  have HC := toHid (show ∀ W, Ext Nope w W → _ from fun W e => has_ints (f := 161) (caps := #[ptr bb]) (p := fun _ => false) ent_heads11 (HV.out.ext0 e) (fun j W' u hj e' hu => by
    obtain ⟨x, hx, hrx⟩ := hu
    rw [List.getElem?_map] at hx
    obtain ⟨g, hg, rfl⟩ := Option.map_eq_some_iff.1 hx
    obtain ⟨hu, _⟩ := hrx.i_inv
    have hu : u = .int .i64 g := by simpa using hu
    subst hu
    refine (head_glyph (f := f) (((e'.block _ (Nat.lt_of_lt_of_le (lt_of_heap hz) e.size) (fun z => z)).trans (e.block _ (lt_of_heap hz) (fun z => z))).trans hz) hc (hin g (List.mem_of_getElem? hg))).mono ?_
    rintro e w' ⟨rfl, rfl⟩
    exact ⟨rfl, Ext.refl _ _⟩))
  simp only [anyN_false] at HC
  obtain ⟨fe, first⟩ := hd
  generalize first.length = n at hv1
  subst hv1
  clear hv hdd hs hl hin h1 hz
  go_enter Tryz.func158, Tryz.ntmps158
  have e1 : Ext Nope w (w.alloc (.cells #[.int .i64 fe, .slice av n cv] 55)) := (Ext.refl _ _).alloc _
  have H1 := toHid e1
  clear e1
  go_wp2_with fail
  refine (HW.out _).mono ?_
  rintro e w2 ⟨rfl, rfl⟩
  go_wp2_with fail
  refine (HR.out _ H1.out).mono ?_
  rintro e w2 ⟨rfl, e2⟩
  have hY := (e2.block _ (by simp) (fun z => z)).trans (heap_alloc_new w (.cells #[.int .i64 fe, .slice av n cv] 55))
  have y1 : w2.cell? ⟨w.heap.size, 1, none⟩ = some (.slice av n cv) := by rw [show (⟨w.heap.size, 1, none⟩ : Addr) = at_ w.heap.size 1 from rfl, cell_of_blk hY]; rfl
  have H2 := toHid (ext0 H1.out e2)
  clear e2 hY
  go_wp2_with fail
  refine (HC.out _ H2.out).mono ?_
  rintro e w3 ⟨rfl, e3⟩
  have H3 := toHid (ext0 H2.out e3)
  clear e3
  go_wp2_with fail
  go_ret
  exact ⟨rfl, H3.out⟩
end Go.Proofs.YtajebdpalnpjdaaGreatDoor
namespace Go.Proofs.YtajebdpalnpjdaaGreatDoor
open Go.RowKit
attribute [local go_sem] alloc_drewN setCell_drewN

set_option maxHeartbeats 4000000 in
set_option maxRecDepth 100000 in
/-- slices.Grow of nothing -/
theorem grow_sets {w : World} {n : Nat} (h0 : 0 < n) (hn : n ≤ 1000000) :
    Calls Tryz.prog 289 #[.slice none 0 0, .int .i64 n] w fun e w' => ∃ v, e = .returned v ∧ w'.ownsRow w.heap.size 24 1 v 0 [] ∧ Ext Nope w w' := by
  obtain ⟨i0, hi, hz0, hz1, hz2⟩ := info_parts infoInts
  have hrz : ∀ ty, (Builtin.append_ #[78, 3] ty #[.slice none 0 0, .int .i64 n]).run Tryz.prog w = .ok (.slice (some ⟨w.heap.size, 0, none⟩) n (grownCap w n 0 24)) (w.drew.alloc (.cells (Builtin.zeroCells (Value.slice none 0 0).cells n ++ Builtin.zeroCells (Value.slice none 0 0).cells (grownCap w n 0 24 - n)) 24)) := fun ty => by
    have h := Lib.run_append_grow_zeros w 78 3 ty 24 i0 _ .i64 .i64 Tryz.underlying78 Tryz.underlying3 hi hz0 none 0 0 [] (by rw [hz1]; exact run_firstCells_none w.drew 1 0 0 0) n h0 (by rw [hz1]; decide) (by omega) (by omega) (by rw [hz2]; omega)
      (by rw [hz2]; exact growslice_fits (by omega) (by omega))
    simpa using h
  have hGn : n ≤ grownCap w n 0 24 := grownCap_ge w _ _ _
  have hGm : grownCap w n 0 24 ≤ maxLen := grownCap_le_maxLen w _ _ _ (by unfold maxLen; omega)
  obtain ⟨G, hG⟩ : ∃ G, G = grownCap w n 0 24 := ⟨_, rfl⟩
  rw [← hG] at hrz hGn hGm
  have hG63 : G ≤ 9223372036854775807 := by unfold maxLen at hGm; omega
  have HM := toHid hGm
  have h4 : (n : Int) > 0 := by omega
  have h3 : wrap64 ((n : Int) - 0) = (n : Int) := by unfold wrap64; omega
  have h3' : wrap64 (n : Int) = (n : Int) := by unfold wrap64; omega
  clear hG hGm hi hz0 hz1 hz2
  go_enter Tryz.func289, Tryz.ntmps289
  go_wp2_with (first | (at_builtin; refine Lib.wpList_append_run _ rfl _ _ _ _ rfl _ _ rfl rfl _ _ (hrz _) ?_))
  go_ret
  refine ⟨_, rfl, ?_, (Ext.refl Nope w).drew.alloc _⟩
  refine ⟨rfl, .inr ⟨w.heap.size, G, _, rfl, Nat.le_refl _, heap_alloc_new w.drew _, Nat.zero_le _, HM.out, ?_, ?_⟩⟩
  · rw [Array.size_append]
    have hz : ∀ k, (Builtin.zeroCells #[Value.slice none 0 0] k).size = k := fun k => by
      simp [Builtin.zeroCells]
    rw [hz, hz]
    omega
  · simp
/-- Lists that are to be put together: how they stand in memory. -/
def CatArg (w : World) (v : Value) (ls : List (List Value)) : Prop := ∃ b off cap, v = .slice (some ⟨b, off, none⟩) ls.length cap ∧ ls.length ≤ cap ∧ cap ≤ 9223372036854775807 ∧
  ∀ k us, ls[k]? = some us → ∃ au cu, w.cell? ⟨b, off + k, none⟩ = some (.slice au us.length cu) ∧ us.length ≤ cu ∧ cu ≤ 9223372036854775807 ∧ (au = none → us = []) ∧ (∀ ad, au = some ad → ∀ j u, us[j]? = some u → w.cell? (ad.add j) = some u) ∧ ∀ u ∈ us, u.oneCell' = true
theorem CatArg.ext0 {w W : World} {v : Value} {ls : List (List Value)} (h : CatArg w v ls) (e : Ext Nope w W) : CatArg W v ls := by
  obtain ⟨b, off, cap, h1, h2, h3, h4⟩ := h
  refine ⟨b, off, cap, h1, h2, h3, fun k us hk => ?_⟩
  obtain ⟨au, cu, q1, q2, q3, q4, q5, q6⟩ := h4 k us hk
  exact ⟨au, cu, cell_keep e q1, q2, q3, q4, fun ad ha j u hu => cell_keep e (q5 ad ha j u hu), q6⟩
/-- How long the first k lists are. -/
def lenV (ls : List (List Value)) (k : Nat) : Nat := ((ls.take k).flatten).length
theorem lenV_succ {ls : List (List Value)} {k : Nat} {l : List Value} (h : ls[k]? = some l) : lenV ls (k + 1) = lenV ls k + l.length := by
  have hk := (List.getElem?_eq_some_iff.1 h).1
  unfold lenV
  rw [List.take_succ_eq_append_getElem hk, (List.getElem?_eq_some_iff.1 h).2]
  simp
theorem lenV_le (ls : List (List Value)) (k : Nat) : lenV ls k ≤ ls.flatten.length := by
  unfold lenV
  have : ls.flatten = (ls.take k).flatten ++ (ls.drop k).flatten := by rw [← List.flatten_append, List.take_append_drop]
  rw [this, List.length_append]
  omega
/-- The first k lists, as cells. -/
def valsTo (ls : List (List Value)) (k : Nat) : List Value := (ls.take k).flatten
theorem vals_app {w : World} {base : Nat} {v : Value} {ls : List (List Value)} {k : Nat} {l : List Value} (h : w.ownsRow base 24 1 v (lenV ls k + l.length) (valsTo ls k ++ l)) (hk : ls[k]? = some l) : w.ownsRow base 24 1 v (lenV ls (k + 1)) (valsTo ls (k + 1)) := by
  unfold valsTo at h ⊢
  have hkl := (List.getElem?_eq_some_iff.1 hk).1
  rw [lenV_succ hk, List.take_succ_eq_append_getElem hkl, (List.getElem?_eq_some_iff.1 hk).2, List.flatten_append]
  simpa using h
set_option maxHeartbeats 4000000 in
set_option maxRecDepth 100000 in
/-- slices.Concat of lists of sets -/
theorem concat_sets {w : World} {v : Value} {ls : List (List Value)} (hr : CatArg w v ls) (h0 : 0 < ls.flatten.length) (hn : ls.flatten.length ≤ 100000) (hls : ls.length ≤ 100000) :
    Calls Tryz.prog 218 #[v] w fun e w' => ∃ v', e = .returned v' ∧ w'.ownsRow w.heap.size 24 1 v' ls.flatten.length ls.flatten ∧ Ext Nope w w' := by
  have HR := toHid hr
  obtain ⟨b, off, cap, hv, hc1, hc2, _⟩ := hr
  subst hv
  obtain ⟨n, HN⟩ : ∃ n, Hid (ls.length = n) := ⟨_, rfl⟩
  obtain ⟨N, HNN⟩ : ∃ N, Hid (ls.flatten.length = N) := ⟨_, rfl⟩
  have HLE := toHid (fun k => lenV_le ls k)
  have HZ : Hid (lenV ls 0 = 0) := by unfold lenV Hid; simp
  have HF : Hid (lenV ls n = N ∧ valsTo ls n = ls.flatten) := by
    unfold Hid valsTo
    rw [← HN.out, ← HNN.out]
    unfold lenV
    simp
  rw [HNN.out] at HLE h0 hn
  have HB := toHid hn
  rw [HN.out] at hc1 hls HR ⊢
  have hnn : Hid (0 < N) := h0
  clear h0 hn
  obtain ⟨i0, hi, hz0, hz1, hz2⟩ := info_parts infoInts
  have HI := toHid (show _ ∧ _ ∧ _ ∧ _ from ⟨hi, hz0, hz1, hz2⟩)
  clear hi hz0 hz1 hz2
  go_enter Tryz.func218, Tryz.ntmps218
  go_wp2_with fail
  go_loopw [3, 11] (fun sz i wr => ∃ k : Nat, i = .int .i64 k ∧ k ≤ n ∧ sz = .int .i64 (lenV ls k) ∧ wr = w) (fun _ i _ => n - (intOf i).toNat)
  case atStart => exact ⟨0, rfl, Nat.zero_le _, by rw [HZ.out]; rfl, rfl⟩
  case round =>
    obtain ⟨k, rfl, hk, rfl, hw⟩ := hrel
    have hw := hw.symm
    subst hw
    by_cases hkn : k < n
    · obtain ⟨b', off', cap', hv, _, _, hll⟩ := HR.out
      simp only [Value.slice.injEq, Option.some.injEq, Addr.mk.injEq, and_true] at hv
      obtain ⟨⟨rfl, rfl⟩, hq, rfl⟩ := hv
      clear hq
      obtain ⟨l, hx⟩ : ∃ l, ls[k]? = some l := ⟨_, List.getElem?_eq_getElem (by rw [HN.out]; exact hkn)⟩
      obtain ⟨au, cu, c0, hcu1, hcu2, _⟩ := hll k l hx
      have HK : Hid (lenV ls (k + 1) = lenV ls k + l.length) := lenV_succ hx
      have h1 := HLE.out (k + 1)
      have h2 := HB.out
      have s1 : (0 : Int) ≤ (k : Int) := by omega
      have s2 : (k : Int) < (n : Int) := by omega
      have s3 : IntKind.i64.wrap ((lenV ls k : Int) + (l.length : Int)) = (lenV ls (k + 1) : Int) := by
        rw [HK.out]
        have := HK.out
        rw [IntWalk.i64_in _ (by omega)]
        omega
      have s4 : ¬ ((lenV ls (k + 1) : Int) < 0) := by omega
      clear hll h1 h2 hx
      go_wp2
      go_roundw
      case rel => refine ⟨k + 1, by go_num, by omega, ?_⟩; first | trivial | exact ⟨rfl, rfl⟩
      case measure => simp [intOf]; omega
    · have hkk : k = n := by omega
      subst hkk
      rw [HF.out.1]
      have s2 : decide ((k : Int) < (k : Int)) = false := by simp
      go_wp2_with fail
      have hG := toHid (grow_sets (w := w) hnn.out (by have := HB.out; omega))
      refine hG.out.mono ?_
      rintro e w2 ⟨v2, rfl, o2, e2⟩
      obtain ⟨av2, cv2, hv2, _⟩ := own_gen o2
      subst hv2
      have H2 := toHid (show _ ∧ _ from ⟨o2, e2⟩)
      clear o2 e2 hG s2
      go_wp2_with fail
      go_loopw [6, 27] (fun o i wr => ∃ j : Nat, i = .int .i64 j ∧ j ≤ k ∧ wr.ownsRow w.heap.size 24 1 o (lenV ls j) (valsTo ls j) ∧ Ext Nope w wr) (fun _ i _ => k - (intOf i).toNat)
      case atStart => exact ⟨0, rfl, Nat.zero_le _, by rw [HZ.out]; exact H2.out.1, H2.out.2⟩
      case round =>
        obtain ⟨j, rfl, hj, hO, hE⟩ := hrel
        rename World => wr
        have HK := toHid (show _ ∧ _ from ⟨hO, hE⟩)
        obtain ⟨av, cv, hv, _⟩ := own_gen hO
        subst hv
        clear hO hE
        by_cases hjk : j < k
        · obtain ⟨b', off', cap', hv, _, _, hll⟩ := HR.out.ext0 HK.out.2
          simp only [Value.slice.injEq, Option.some.injEq, Addr.mk.injEq, and_true] at hv
          obtain ⟨⟨rfl, rfl⟩, hq, rfl⟩ := hv
          clear hq
          obtain ⟨l, hx⟩ : ∃ l, ls[j]? = some l := ⟨_, List.getElem?_eq_getElem (by rw [HN.out]; exact hjk)⟩
          obtain ⟨au, cu, c0, hcu1, hcu2, hnone, hsome, hone⟩ := hll j l hx
          have HU := toHid (show _ ∧ _ ∧ _ from ⟨hnone, hsome, hone⟩)
          have HX := toHid hx
          have s1 : (0 : Int) ≤ (j : Int) := by omega
          have s2 : (j : Int) < (k : Int) := by omega
          have hb1 := HLE.out (j + 1)
          have hb2 := HB.out
          have hb3 := lenV_succ hx
          obtain ⟨m, HM⟩ : ∃ m, Hid (lenV ls j = m) := ⟨_, rfl⟩
          have hbound : m + l.length ≤ 100000 := by have := HM.out; omega
          have hown := HK.out.1
          rw [HM.out] at hown ⊢
          obtain ⟨hi, hz0, hz1, hz2⟩ := HI.out
          clear hll hx hb1 hb2 hb3 hnone hsome hone
          rcases au with _ | ad
          · have hnil : l = [] := HU.out.1 rfl
            subst hnil
            have hrun := fun ty => append_nothing (P := Tryz.prog) w.heap.size 78 ty 24 i0 1 cu Tryz.underlying78 hi (.slice av m cv) m (valsTo ls j) hown
            go_wp2_with (first | (at_builtin; refine Lib.wpList_append_run _ rfl (.tmp 31) (.tmp 32) 78 78 rfl _ _ rfl rfl _ _ (hrun _) ?_))
            have HW := toHid (show _ ∧ _ from ⟨vals_app (l := []) (by rw [HM.out]; simpa using hown) HX.out, HK.out.2⟩)
            clear hown hi hz0 hz1 hz2 hrun
            go_roundw
            case rel => exact ⟨j + 1, by go_num, by omega, HW.out⟩
            case measure => simp [intOf]; omega
          · have hone := HU.out.2.2
            have hread := HU.out.2.1 ad rfl
            go_wp2_with (first | (at_builtin; refine wpList_append_own _ rfl (.tmp 31) (.tmp 32) 78 rfl w.heap.size 24 i0 _ 1 24 Tryz.underlying78 hi hz0 hz1 hz2 rfl (by decide) _ m _ rfl hown ad l.length cu l rfl (by simp) hread hone (by unfold maxLen; omega) (by omega) HK.out.2.size ?_))
            intro v' w' hown' hgrow _
            have HW := toHid (show _ ∧ _ from ⟨vals_app (by rw [HM.out]; exact hown') HX.out, Ext.grown HK.out.2 hgrow (fun g hg hlt => absurd hlt (by have := (World.ownsRow.lt hown g hg).1; omega))⟩)
            clear hown' hgrow hown hi hz0 hz1 hz2 hone hread
            go_wp2
            go_roundw
            case rel => exact ⟨j + 1, by go_num, by omega, HW.out⟩
            case measure => simp [intOf]; omega
        · have hjj : j = k := by omega
          subst hjj
          have s2 : decide ((j : Int) < (j : Int)) = false := by simp
          go_wp2
          go_ret
          refine ⟨_, rfl, ?_, HK.out.2⟩
          have h := HK.out.1
          rw [HF.out.2] at h
          rw [HNN.out, ← HF.out.1]
          exact h
end Go.Proofs.YtajebdpalnpjdaaGreatDoor
namespace Go.Proofs.YtajebdpalnpjdaaGreatDoor
open Go.RowKit
attribute [local go_sem] alloc_drewN setCell_drewN

/-- The cells of a list of sets. -/
theorem sets_vals {A : Nat → Prop} {w : World} {a : Option Addr} {n c : Nat} {l : List (List Int)} (h : Rd A w [.slice a n c] (setsD l)) :
    ∃ us : List Value, us.length = l.length ∧ (a = none → us = []) ∧ (∀ ad, a = some ad → ∀ (j : Nat) (u : Value), us[j]? = some u → w.cell? (ad.add j) = some u) ∧ (∀ u ∈ us, u.oneCell' = true) ∧ ∀ (j : Nat) (s : List Int), l[j]? = some s → ∃ u, us[j]? = some u ∧ Rd A w [u] (intsD s) := by
  obtain ⟨a', cap', hv, _, _, hat⟩ := Rd.l_inv h
  rw [List.length_map] at hv hat
  have hv : a = a' ∧ n = l.length ∧ c = cap' := by simpa using hv
  obtain ⟨rfl, rfl, rfl⟩ := hv
  rcases Nat.eq_zero_or_pos l.length with h0 | h0
  · have hl : l = [] := List.length_eq_zero_iff.1 h0
    subst hl
    exact ⟨[], rfl, fun _ => rfl, fun _ _ j u hu => by simp at hu, fun u hu => by simp at hu, fun j s hs => by simp at hs⟩
  · obtain ⟨b, off, rfl, _, _, hel⟩ := hat h0
    have key : ∀ (j : Nat) (s : List Int), l[j]? = some s → ∃ u, w.cell? ⟨b, off + j, none⟩ = some u ∧ Rd A w [u] (intsD s) := fun j s hs => by
      obtain ⟨us, _, hu, hr⟩ := hel j (intsD s) (by rw [List.getElem?_map, hs]; rfl)
      obtain ⟨a2, c2, hus, _⟩ := hr.l_inv
      rw [hus] at hr hu
      exact ⟨_, by simpa using hu 0 _ rfl, hr⟩
    have hget : ∀ (j : Nat) (s : List Int), l[j]? = some s → ∃ u, ((List.range l.length).map fun k => (w.cell? ⟨b, off + k, none⟩).getD undef)[j]? = some u ∧ w.cell? ⟨b, off + j, none⟩ = some u ∧ Rd A w [u] (intsD s) := fun j s hs => by
      obtain ⟨u, hu, hr⟩ := key j s hs
      have hj := (List.getElem?_eq_some_iff.1 hs).1
      exact ⟨u, by rw [List.getElem?_map, List.getElem?_range hj]; simp [hu], hu, hr⟩
    have hall : ∀ (j : Nat) (u : Value), ((List.range l.length).map fun k => (w.cell? ⟨b, off + k, none⟩).getD undef)[j]? = some u → ∃ s, l[j]? = some s ∧ w.cell? ⟨b, off + j, none⟩ = some u ∧ Rd A w [u] (intsD s) := fun j u hu => by
      have hj := (List.getElem?_eq_some_iff.1 hu).1
      rw [List.length_map, List.length_range] at hj
      have hs : l[j]? = some l[j] := List.getElem?_eq_getElem hj
      obtain ⟨u', h1, h2, h3⟩ := hget j _ hs
      rw [hu] at h1
      cases h1
      exact ⟨_, hs, h2, h3⟩
    refine ⟨(List.range l.length).map fun k => (w.cell? ⟨b, off + k, none⟩).getD undef, by simp, (fun z => by cases z), fun ad ha j u hu => ?_, fun u hu => ?_, fun j s hs => ?_⟩
    · cases ha
      obtain ⟨s, _, h2, _⟩ := hall j u hu
      rw [show Addr.add ⟨b, off, none⟩ j = ⟨b, off + j, none⟩ by unfold Addr.add; split <;> simp_all]
      exact h2
    · obtain ⟨j, hj⟩ := List.mem_iff_getElem?.1 hu
      obtain ⟨s, _, _, h3⟩ := hall j u hj
      exact h3.one u (by simp)
    · obtain ⟨u, h1, _, h3⟩ := hget j s hs
      exact ⟨u, h1, h3⟩
theorem rule_parts {A : Nat → Prop} {w : World} {cs : List Value} {r : RuleA} (h : Rd A w cs (ruleD r)) : ∃ a0 c0 a1 c1 a2 c2 a3 c3 a4 c4, cs = [.slice a0 r.back.length c0, .slice a1 r.in_.length c1, .slice a2 r.ahead.length c2, .slice a3 r.out.length c3, .slice a4 r.calls.length c4] ∧
    Rd A w [.slice a0 r.back.length c0] (setsD r.back) ∧ Rd A w [.slice a1 r.in_.length c1] (setsD r.in_) ∧ Rd A w [.slice a2 r.ahead.length c2] (setsD r.ahead) ∧ Rd A w [.slice a3 r.out.length c3] (intsD r.out) ∧ Rd A w [.slice a4 r.calls.length c4] (.l 2 (r.calls.map pairD)) := by
  obtain ⟨v0, _, rfl, h0, h⟩ := Rd.rl h
  obtain ⟨v1, _, rfl, h1, h⟩ := Rd.rl h
  obtain ⟨v2, _, rfl, h2, h⟩ := Rd.rl h
  obtain ⟨v3, _, rfl, h3, h⟩ := Rd.rl h
  obtain ⟨v4, _, rfl, h4, h⟩ := Rd.rl h
  obtain rfl := h.r_nil
  obtain ⟨a0, c0, hv0, _⟩ := h0.len
  obtain ⟨a1, c1, hv1, _⟩ := h1.len
  obtain ⟨a2, c2, hv2, _⟩ := h2.len
  obtain ⟨a3, c3, hv3, _⟩ := h3.len
  obtain ⟨a4, c4, hv4, _⟩ := h4.len
  rw [List.length_map] at hv0 hv1 hv2 hv3 hv4
  subst hv0 hv1 hv2 hv3 hv4
  exact ⟨a0, c0, a1, c1, a2, c2, a3, c3, a4, c4, rfl, h0, h1, h2, h3, h4⟩
/-- All sets of a rule. -/
def ctx (r : RuleA) : List (List Int) := r.in_ ++ (r.back ++ r.ahead)
theorem Rd.cells_own {A : Nat → Prop} {w : World} {base E : Nat} {v : Value} {us : List Value} {xs : List Dat} (h : w.ownsRow base E 1 v us.length us) (hl : xs.length = us.length) (hA : ∀ g, v.ownBlock = some g → A g) (hx : ∀ (k : Nat) (x : Dat), xs[k]? = some x → ∃ u, us[k]? = some u ∧ Rd A w [u] x) : Rd A w [v] (.l 1 xs) := by
  refine Rd.own (xs := xs) (by rw [hl]; exact h) hA fun k x hk => ?_
  obtain ⟨u, hu, hr⟩ := hx k x hk
  have e : (us.drop (k * 1)).take 1 = [u] := by
    rw [Nat.mul_one, List.drop_eq_getElem_cons (List.getElem?_eq_some_iff.1 hu).1, (List.getElem?_eq_some_iff.1 hu).2]
    rfl
  rw [e]
  exact hr
set_option maxRecDepth 100000 in
set_option maxHeartbeats 4000000 in
/-- rules.context -/
theorem context_calls {A : Nat → Prop} {w : World} {cs : List Value} {r : RuleA} (hr : Rd A w cs (ruleD r)) (h0 : 0 < (ctx r).length) (hn : (ctx r).length ≤ 100000) :
    Calls Tryz.prog 166 #[.agg cs.toArray] w fun e w' => ∃ v, e = .returned v ∧ Rd (fun _ => True) w' [v] (setsD (ctx r)) ∧ Ext Nope w w' := by
  obtain ⟨a0, c0, a1, c1, a2, c2, a3, c3, a4, c4, rfl, h0', h1', h2', _, _⟩ := rule_parts hr
  obtain ⟨us0, l0, n0, s0, o0, g0⟩ := sets_vals h0'
  obtain ⟨us1, l1, n1, s1, o1, g1⟩ := sets_vals h1'
  obtain ⟨us2, l2, n2, s2, o2, g2⟩ := sets_vals h2'
  have bnd : ∀ {a : Option Addr} {n c : Nat} {l : List (List Int)}, Rd A w [.slice a n c] (setsD l) → n ≤ c ∧ c ≤ 9223372036854775807 := fun h => by
    obtain ⟨_, _, e, p, q⟩ := h.len
    simp only [Value.slice.injEq] at e
    obtain ⟨_, rfl, rfl⟩ := e
    exact ⟨p, q⟩
  obtain ⟨p0, q0⟩ := bnd h0'
  obtain ⟨p1, q1⟩ := bnd h1'
  obtain ⟨p2, q2⟩ := bnd h2'
  clear bnd
  have hfl : [us1, us0, us2].flatten = us1 ++ (us0 ++ us2) := by simp
  have hlen : [us1, us0, us2].flatten.length = (ctx r).length := by rw [hfl]; unfold ctx; simp [l0, l1, l2]
  have HX := toHid (show _ ∧ _ ∧ _ from ⟨g0, g1, g2⟩)
  have HL := toHid (show _ ∧ _ ∧ _ ∧ _ from ⟨l0, l1, l2, hlen⟩)
  have HC := toHid (show ∀ W b, Ext Nope w W → W.heap[b]? = some (.cells #[.slice a1 r.in_.length c1, .slice a0 r.back.length c0, .slice a2 r.ahead.length c2] 78 (0, 0)) → CatArg W (.slice (some ⟨b, 0, none⟩) 3 3) [us1, us0, us2] from fun W b e hb => by
    have hc : ∀ j, W.cell? ⟨b, 0 + j, none⟩ = (#[Value.slice a1 r.in_.length c1, .slice a0 r.back.length c0, .slice a2 r.ahead.length c2] : Array Value)[j]? := fun j => by rw [Nat.zero_add]; exact cell_of_blk hb j
    refine ⟨b, 0, 3, rfl, Nat.le_refl _, by omega, fun k us hk => ?_⟩
    match k, hk with
    | 0, hk =>
      cases hk
      exact ⟨a1, c1, by rw [hc, l1]; rfl, by omega, q1, n1, fun ad ha j u hu => cell_keep e (s1 ad ha j u hu), o1⟩
    | 1, hk =>
      cases hk
      exact ⟨a0, c0, by rw [hc, l0]; rfl, by omega, q0, n0, fun ad ha j u hu => cell_keep e (s0 ad ha j u hu), o0⟩
    | 2, hk =>
      cases hk
      exact ⟨a2, c2, by rw [hc, l2]; rfl, by omega, q2, n2, fun ad ha j u hu => cell_keep e (s2 ad ha j u hu), o2⟩)
  obtain ⟨m0, HM0⟩ : ∃ m, Hid (r.back.length = m) := ⟨_, rfl⟩
  obtain ⟨m1, HM1⟩ : ∃ m, Hid (r.in_.length = m) := ⟨_, rfl⟩
  obtain ⟨m2, HM2⟩ : ∃ m, Hid (r.ahead.length = m) := ⟨_, rfl⟩
  obtain ⟨m3, HM3⟩ : ∃ m, Hid (r.out.length = m) := ⟨_, rfl⟩
  obtain ⟨m4, HM4⟩ : ∃ m, Hid (r.calls.length = m) := ⟨_, rfl⟩
  rw [HM0.out, HM1.out, HM2.out] at HC
  rw [HM0.out, HM1.out, HM2.out, HM3.out, HM4.out]
  rw [← hlen] at h0 hn
  have HB := toHid (show _ ∧ _ from ⟨h0, hn⟩)
  clear h0 hn h0' h1' h2' hr l0 l1 l2 n0 n1 n2 s0 s1 s2 o0 o1 o2 g0 g1 g2 p0 p1 p2 q0 q1 q2 hlen hfl
  go_enter Tryz.func166, Tryz.ntmps166
  go_wp2_with fail
  have e1 : Ext Nope w ((w.alloc (.cells #[.slice a0 m0 c0, .slice a1 m1 c1, .slice a2 m2 c2, .slice a3 m3 c3, .slice a4 m4 c4] 81)).alloc (.cells #[.slice a1 m1 c1, .slice a0 m0 c0, .slice a2 m2 c2] 78)) := ((Ext.refl _ _).alloc _).alloc _
  have hz : ((w.alloc (.cells #[.slice a0 m0 c0, .slice a1 m1 c1, .slice a2 m2 c2, .slice a3 m3 c3, .slice a4 m4 c4] 81)).alloc (.cells #[.slice a1 m1 c1, .slice a0 m0 c0, .slice a2 m2 c2] 78)).heap[w.heap.size + 1]? = some (.cells #[.slice a1 m1 c1, .slice a0 m0 c0, .slice a2 m2 c2] 78 (0, 0)) := heap_alloc_at _ _ _ (by simp)
  refine (concat_sets (HC.out _ _ e1 hz) HB.out.1 HB.out.2 (by simp)).mono ?_
  rintro e w2 ⟨v, rfl, o2, e2⟩
  obtain ⟨av, cv, hv, _⟩ := own_gen o2
  obtain ⟨N, HN⟩ : ∃ N, Hid ([us1, us0, us2].flatten.length = N) := ⟨_, rfl⟩
  rw [HN.out] at hv
  subst hv
  have H2 := toHid (show _ ∧ _ from ⟨o2, ext0 e1 e2⟩)
  clear o2 e1 e2 hz
  go_wp2
  go_ret
  refine ⟨_, rfl, ?_, H2.out.2⟩
  refine Rd.cells_own (us := [us1, us0, us2].flatten) (xs := (ctx r).map intsD) H2.out.1 (by rw [List.length_map]; exact HL.out.2.2.2.symm) (fun _ _ => trivial) fun k x hk => ?_
  rw [List.getElem?_map] at hk
  obtain ⟨s, hs, rfl⟩ := Option.map_eq_some_iff.1 hk
  have fin : ∀ {u : Value}, Rd A w [u] (intsD s) → Rd (fun _ => True) w2 [u] (intsD s) := fun h => (h.ext0 H2.out.2).mono (fun _ _ _ => trivial)
  rw [show [us1, us0, us2].flatten = us1 ++ (us0 ++ us2) by simp]
  unfold ctx at hs
  by_cases hk1 : k < us1.length
  · rw [List.getElem?_append_left (by rw [← HL.out.2.1]; exact hk1)] at hs
    obtain ⟨u, hu, hr⟩ := HX.out.2.1 k s hs
    exact ⟨u, by rw [List.getElem?_append_left hk1]; exact hu, fin hr⟩
  · rw [List.getElem?_append_right (by rw [← HL.out.2.1]; omega), ← HL.out.2.1] at hs
    rw [List.getElem?_append_right (by omega)]
    by_cases hk2 : k - us1.length < us0.length
    · rw [List.getElem?_append_left (by rw [← HL.out.1]; exact hk2)] at hs
      obtain ⟨u, hu, hr⟩ := HX.out.1 _ s hs
      exact ⟨u, by rw [List.getElem?_append_left hk2]; exact hu, fin hr⟩
    · rw [List.getElem?_append_right (by rw [← HL.out.1]; omega), ← HL.out.1] at hs
      rw [List.getElem?_append_right (by omega)]
      obtain ⟨u, hu, hr⟩ := HX.out.2.2 _ s hs
      exact ⟨u, hu, fin hr⟩
/-- A set of glyphs that is met. -/
def SetG (g : Int) (s : List Int) : Prop := Incr s ∧ 0 < s.length ∧ s.length ≤ 1000 ∧ ∀ x ∈ s, 0 ≤ x ∧ x < g
set_option maxHeartbeats 1000000 in
/-- rules.wrongSet -/
theorem wrong_calls {w : World} {A : Nat → Prop} {v : Value} {s : List Int} (h : Rd A w [v] (intsD s)) (hs : Incr s) (h0 : 0 < s.length) (hl : s.length ≤ 1000) :
    Calls Tryz.prog 167 #[v] w fun e w' => e = .returned (.bool false) ∧ Ext Nope w w' := by
  have HR := toHid (right_calls h hs (by omega))
  obtain ⟨a, c, hv, _⟩ := h.ints_inv
  generalize s.length = n at hv h0 hl
  subst hv
  have h1 : ¬ ((n : Int) = 0) := by omega
  have h2 : ((n : Int) == 0) = false := by simp; omega
  have h3 : ¬ n = 0 := by omega
  clear h hs
  go_enter Tryz.func167, Tryz.ntmps167
  go_wp2_with fail
  refine HR.out.mono ?_
  rintro e w2 ⟨rfl, e2⟩
  go_wp2
  go_ret
  exact ⟨rfl, e2⟩
theorem ent_wrong : Enters 167 := enters_of Tryz.func167 (by kernel_rfl) rfl
theorem ent_unk : Enters 162 := enters_of Tryz.func162 (by kernel_rfl) rfl
theorem ent_unk1 : Enters 163 := enters_of Tryz.func163 (by kernel_rfl) rfl
theorem ent_wcall : Enters 164 := enters_of Tryz.func164 (by kernel_rfl) rfl
/-- Whether a glyph is none. -/
theorem unk1_calls {w : World} {gb : Nat} {n g : Int} (hz : w.heap[gb]? = some (.cells #[.int .i64 n] 3 (0, 0))) (hg : 0 ≤ g ∧ g < n) :
    Calls Tryz.prog 163 #[.int .i64 g, ptr gb] w fun e w' => e = .returned (.bool false) ∧ w = w' := by
  have c0 : w.cell? ⟨gb, 0, none⟩ = some (.int .i64 n) := by rw [show (⟨gb, 0, none⟩ : Addr) = at_ gb 0 from rfl, cell_of_blk hz]; rfl
  have h1 : ¬ (g < 0) := by omega
  have h2 : ¬ (n ≤ g) := by omega
  have h3 : 0 ≤ g := hg.1
  have h4 : g < n := hg.2
  clear hz hg
  go_enter Tryz.func163, Tryz.ntmps163
  go_wp2
  go_ret
  exact ⟨rfl, rfl⟩
set_option maxHeartbeats 1000000 in
/-- Whether a list has what is no glyph. -/
theorem unk_calls {w : World} {A : Nat → Prop} {v : Value} {s : List Int} {gb : Nat} {n : Int} (h : Rd A w [v] (intsD s)) (hz : w.heap[gb]? = some (.cells #[.int .i64 n] 3 (0, 0))) (hg : ∀ x ∈ s, 0 ≤ x ∧ x < n) :
    Calls Tryz.prog 162 #[v, ptr gb] w fun e w' => e = .returned (.bool false) ∧ Ext Nope w w' := by
  have HC := toHid (has_ints (f := 163) (caps := #[ptr gb]) (p := fun _ => false) ent_unk1 h (fun j W' u hj e' hu => by
    obtain ⟨x, hx, hrx⟩ := hu
    rw [List.getElem?_map] at hx
    obtain ⟨g, hg', rfl⟩ := Option.map_eq_some_iff.1 hx
    obtain ⟨hu, _⟩ := hrx.i_inv
    have hu : u = .int .i64 g := by simpa using hu
    subst hu
    refine (unk1_calls ((e'.block _ (lt_of_heap hz) (fun z => z)).trans hz) (hg g (List.mem_of_getElem? hg'))).mono ?_
    rintro e w' ⟨rfl, rfl⟩
    exact ⟨rfl, Ext.refl _ _⟩))
  rw [anyN_false] at HC
  clear h hz hg
  go_enter Tryz.func162, Tryz.ntmps162
  go_wp2_with fail
  refine HC.out.mono ?_
  rintro e w2 ⟨rfl, e2⟩
  go_wp2
  go_ret
  exact ⟨rfl, e2⟩
set_option maxHeartbeats 1000000 in
/-- Whether a call is wrong. -/
theorem wcall_calls {w : World} {rb kb lb : Nat} {v0 v2 v3 v4 : Value} {a1 : Option Addr} {n1 c1 : Nat} {k L x y : Int} (hz : w.heap[rb]? = some (.cells #[v0, .slice a1 n1 c1, v2, v3, v4] 81 (0, 0))) (hk : w.heap[kb]? = some (.cells #[.int .i64 k] 3 (0, 0))) (hl : w.heap[lb]? = some (.cells #[.int .i64 L] 3 (0, 0))) (hx : 0 ≤ x ∧ x < n1) (hy : k < y ∧ y < L) :
    Calls Tryz.prog 164 #[.agg #[.int .i64 x, .int .i64 y], ptr rb, ptr kb, ptr lb] w fun e w' => e = .returned (.bool false) ∧ Ext Nope w w' := by
  have hlr := lt_of_heap hz
  have hlk := lt_of_heap hk
  have hll := lt_of_heap hl
  have e1 : Ext Nope w (w.alloc (.cells #[.int .i64 x, .int .i64 y] 184)) := (Ext.refl _ _).alloc _
  have c1 : (w.alloc (.cells #[.int .i64 x, .int .i64 y] 184)).cell? ⟨rb, 1, none⟩ = some (.slice a1 n1 c1) := cell_keep e1 (by rw [show (⟨rb, 1, none⟩ : Addr) = at_ rb 1 from rfl, cell_of_blk hz]; rfl)
  have ck : (w.alloc (.cells #[.int .i64 x, .int .i64 y] 184)).cell? ⟨kb, 0, none⟩ = some (.int .i64 k) := cell_keep e1 (by rw [show (⟨kb, 0, none⟩ : Addr) = at_ kb 0 from rfl, cell_of_blk hk]; rfl)
  have cl : (w.alloc (.cells #[.int .i64 x, .int .i64 y] 184)).cell? ⟨lb, 0, none⟩ = some (.int .i64 L) := cell_keep e1 (by rw [show (⟨lb, 0, none⟩ : Addr) = at_ lb 0 from rfl, cell_of_blk hl]; rfl)
  have H1 := toHid e1
  have h1 : ¬ (x < 0) := by omega
  have h2 : ¬ ((n1 : Int) ≤ x) := by omega
  have h3 : ¬ (y ≤ k) := by omega
  have h4 : ¬ (L ≤ y) := by omega
  have h5 : 0 ≤ x := hx.1
  have h6 : x < n1 := hx.2
  have h7 : k < y := hy.1
  have h8 : y < L := hy.2
  clear hz hk hl e1 hlr hlk hll hx hy
  go_enter Tryz.func164, Tryz.ntmps164
  go_wp2
  go_ret
  exact ⟨rfl, H1.out⟩
end Go.Proofs.YtajebdpalnpjdaaGreatDoor
