/-
  The reference memory: Put where there is such a key.
-/
import Derived.Test.YtkloaadaicklfaaR6
namespace Go.Proofs.Ytkloaadaicklfaa
open Go.RowKit
attribute [local go_sem] alloc_drewN setCell_drewN

set_option maxRecDepth 100000 in
set_option maxHeartbeats 8000000 in
theorem rput_hit {w : World} {br : Nat} {B : Int} {v : Value} {a0 b0 : List Kept} {x0 : Kept} (h : RRep w br B v (a0 ++ x0 :: b0)) (hB : 0 ≤ B ∧ B ≤ 1073741824) (hz : ∀ x ∈ a0 ++ x0 :: b0, 0 ≤ x.size ∧ x.size ≤ 65536) (hu : usedOf (a0 ++ x0 :: b0) ≤ B) (o : Own) (s : Int) (s1 : 0 ≤ s) (s2 : s ≤ 65536) (hlen : (a0 ++ x0 :: b0).length ≤ 1000000)
    (hf : pinnedOf (a0 ++ b0) + s ≤ B) (hx0 : x0.key = o) (ha0 : ∀ y ∈ a0, y.key ≠ o) (hb0 : ∀ y ∈ b0, y.key ≠ o) :
    Calls Try.prog 34 #[ptr br, o.val, .int .i64 s] w (RPutOK w br B v (a0 ++ b0) ⟨o, s, x0.pinned⟩) := by
  have HO := toHid ha0
  have HX0 := toHid hx0
  have hrs : restK o (a0 ++ x0 :: b0) = a0 ++ b0 := by
    have e1 : a0.filter (fun x => decide (x.key ≠ o)) = a0 := List.filter_eq_self.2 fun y hy => by simpa using ha0 y hy
    have e2 : b0.filter (fun x => decide (x.key ≠ o)) = b0 := List.filter_eq_self.2 fun y hy => by simpa using hb0 y hy
    simp only [restK, List.filter_append, List.filter_cons, hx0, ne_eq, not_true_eq_false, decide_false, Bool.false_eq_true, if_false]
    simp only [ne_eq] at e1 e2
    rw [e1, e2]
  have HRS := toHid hrs
  clear ha0 hx0 hb0 hrs
  obtain ⟨xs, HXS⟩ : ∃ xs, Hid (a0 ++ x0 :: b0 = xs) := ⟨_, rfl⟩
  rw [HXS.out] at h hz hu hlen
  have c0 := h.c0
  have hlt := lt_of_heap h.self
  have B0 := hB.1
  have B1 := hB.2
  obtain ⟨av, cap, hv, hcap, hmax, hav⟩ := h.gen
  obtain ⟨n, HN⟩ : ∃ n, Hid (xs.length = n) := ⟨_, rfl⟩
  rw [HN.out] at hv hcap hav hlen
  have HU : Hid (usedOf xs ≤ B) := hu
  have HZ : Hid (∀ x ∈ xs, 0 ≤ x.size ∧ x.size ≤ 65536) := hz
  have HAV := toHid hav
  clear hu hz hav
  subst hv
  go_enter Try.func34, Try.ntmps34
  go_wp2
  clear c0
  go_loopw [8, 9, 10] (fun p a i wr => ∃ (k : Nat) (pp aa : Int), i = .int .i64 k ∧ k ≤ n ∧ p = .int .i64 pp ∧ a = .int .i64 aa ∧ Hid (pp = s + pinnedOf (restK o (xs.take k))) ∧ Hid (aa = s + usedOf (restK o (xs.take k))) ∧ Ext Nope (w.alloc (.cells (ownCells o) 34)) wr) (fun _ _ i _ => n - (intOf i).toNat)
  case atStart => exact ⟨0, s, s, rfl, Nat.zero_le _, rfl, rfl, by simp [restK, pinnedOf, Hid], by simp [restK, usedOf, Hid], Ext.refl _ _⟩
  case round =>
    obtain ⟨k, pp, aa, rfl, hk, rfl, rfl, HP, HA, hE⟩ := hrel
    have hE' := ext0 ((Ext.refl Nope w).alloc (.cells (ownCells o) 34)) hE
    have hr := h.ext hE' (fun x => x) (fun _ _ x => x)
    have c2 := hr.c2
    have hb : BRow wr w.heap.size o := (hE.block _ (by simp) (fun x => x)).trans (heap_alloc_new w _)
    have q1 := sums_le (o := o) (xs.take k) (fun x hx => HZ.out x (List.mem_of_mem_take hx))
    have q2 := usedOf_take_le HZ.out k
    have q3 := HU.out
    have p1 : 0 ≤ pp := by have := HP.out; omega
    have p2 : pp ≤ 1073807360 := by have := HP.out; omega
    have a1 : 0 ≤ aa := by have := HA.out; omega
    have a2 : aa ≤ 1073807360 := by have := HA.out; omega
    clear q1 q2 q3
    by_cases hkn : k < n
    · obtain ⟨b0, b1, b2, b3⟩ := hb.cells
      obtain ⟨g, rfl⟩ := HAV.out (by omega)
      obtain ⟨y, l1, l2, hy, hyl⟩ := nth_split (xs := xs) (k := k) (by rw [HN.out]; exact hkn)
      have hcells := hr.list
      rw [hy] at hcells
      obtain ⟨y0, y1, y2, y3, y4, y5⟩ := kept_cells hcells
      rw [hyl] at y0 y1 y2 y3 y4 y5
      have heq : ∀ W, (Op.equalIn 10000 34 (.agg #[.int .i64 y.key.f, .int .i64 y.key.k, .int .i64 y.key.n, .int .i64 y.key.r]) (.agg #[.int .i64 o.f, .int .i64 o.k, .int .i64 o.n, .int .i64 o.r])).run Try.prog W = .ok (decide (y.key = o)) W := fun W => eq34 y.key o W
      obtain ⟨z1, z2⟩ := HZ.out y (by rw [hy]; simp)
      have ty : xs.take (k + 1) = xs.take k ++ [y] := take_at hy hyl
      have TY := toHid ty
      clear hcells hr hb hy ty hyl
      by_cases hyo : y.key = o
      · replace heq := fun W => (heq W).trans (by rw [decide_eq_true hyo])
        have HYO := toHid hyo
        clear hyo
        go_wp2_with fail
        go_quiet (fail)
        go_wp2
        go_roundw
        case rel => exact ⟨k + 1, pp, aa, by go_num, by omega, rfl, rfl, by rw [TY.out, restK_snoc_eq _ HYO.out]; exact HP, by rw [TY.out, restK_snoc_eq _ HYO.out]; exact HA, hE.drewN _⟩
        case measure => simp [intOf]; omega
      · replace heq := fun W => (heq W).trans (by rw [decide_eq_false hyo])
        have HYO := toHid hyo
        clear hyo
        cases hyp : y.pinned
        · rw [hyp] at y5
          go_wp2_with fail
          go_quiet (fail)
          go_wp2
          go_roundw
          case rel => exact ⟨k + 1, pp, aa + y.size, by go_num, by omega, rfl, rfl, by rw [TY.out, restK_snoc_ne _ HYO.out]; exact psum0 HP.out hyp, by rw [TY.out, restK_snoc_ne _ HYO.out]; exact usum HA.out, hE.drewN _⟩
          case measure => simp [intOf]; omega
        · rw [hyp] at y5
          go_wp2_with fail
          go_quiet (fail)
          go_wp2
          go_roundw
          case rel => exact ⟨k + 1, pp + y.size, aa + y.size, by go_num, by omega, rfl, rfl, by rw [TY.out, restK_snoc_ne _ HYO.out]; exact psum1 HP.out hyp, by rw [TY.out, restK_snoc_ne _ HYO.out]; exact usum HA.out, hE.drewN _⟩
          case measure => simp [intOf]; omega
    · have hkk : n = k := by omega
      subst hkk
      have d1 := hr.c1
      have hx0 : xs.take n = xs := by rw [← HN.out, List.take_length]
      rw [hx0] at HP HA
      clear hx0 hk hkn
      rw [← HXS.out, HRS.out] at HP HA
      have hpp : pp ≤ B := by have := HP.out; omega
      obtain ⟨b0', b1, b2, b3⟩ := hb.cells
      have hbxl : w.heap.size < wr.heap.size := lt_of_heap hb
      have hr' := hr
      rw [← HXS.out] at hr'
      have FM := rfind_hit (hr'.alloc (.cells (keptRow ⟨o, s, false⟩) 55)) o HX0.out HO.out (by rw [HXS.out, HN.out]; exact hlen)
      go_wp2_with fail
      refine FM.mono ?_
      rintro e w2 ⟨rfl, hE2⟩
      have r2 := (hr'.alloc (.cells (keptRow ⟨o, s, false⟩) 55)).ext hE2 (fun x => x) (fun _ _ x => x)
      have x2 : RX w2 wr.heap.size ⟨o, s, false⟩ := (hE2.block _ (by simp) (fun x => x)).trans (heap_alloc_new _ _)
      have e2 : Ext Nope w w2 := ext0 (hE'.alloc _) hE2
      have hXb : w.heap.size ≤ wr.heap.size := hE'.size
      have hrl : ∀ k, Value.ownBlock (.slice av n cap) = some k → k < wr.heap.size := fun k hk => (hr.list.lt k hk).2
      clear FM hr hr' hb hE hE' hE2 b0' b1 b2 b3
      generalize wr.heap.size = X at *
      have hn0 : n = a0.length + 1 + b0.length := by rw [← HN.out, ← HXS.out]; simp; omega
      obtain ⟨gv, rfl⟩ := HAV.out (by omega)
      have hc2 := r2.c2
      obtain ⟨_, _, _, _, _, y5⟩ := kept_cells r2.list
      obtain ⟨_, _, _, _, _, x5⟩ := x2.cells
      have fx5 : w2.frozen? ⟨X, 5, none⟩ = false := free_of_blk x2 5
      have hk0 : (0 : Int) ≤ (a0.length : Int) := Int.natCast_nonneg _
      have hk1 : (a0.length : Int) < (n : Int) := by omega
      have hgX : gv ≠ X := fun e => by have := hrl gv rfl; omega
      have r3 : RRep (w2.setCell ⟨X, 5, none⟩ (.bool x0.pinned)) br B (.slice (some ⟨gv, 0, none⟩) n cap) (a0 ++ x0 :: b0) :=
        r2.ext (S := fun k => k = X) ((Ext.refl (fun k => k = X) _).setCell X 5 (fun _ => rfl) _) (fun e => by omega) (fun k hk e => by have := hrl k hk; omega)
      have x3 : RX (w2.setCell ⟨X, 5, none⟩ (.bool x0.pinned)) X ⟨o, s, x0.pinned⟩ := heap_setCell_eq _ _ _ _ _ _ _ x2
      have e3 : Ext Nope w (w2.setCell ⟨X, 5, none⟩ (.bool x0.pinned)) := e2.setCell _ _ (fun hk => absurd hk (by omega)) _
      have W := without_walk br gv n cap a0.length a0 b0 x0 (w2.setCell ⟨X, 5, none⟩ (.bool x0.pinned)) r3.c2 r3.list hn0 rfl hcap hlen hmax
      have HN0 := toHid hn0
      clear r2 x2 e2 hn0
      go_wp2_with fail
      refine W.mono ?_
      rintro e w4 ⟨u2, rfl, hk4, hE4⟩
      obtain ⟨ua, ul, uc, rfl⟩ := hk4.shape
      obtain ⟨q1, q2⟩ := r3.relist hE4 hk4
      have hX3 := lt_of_heap x3
      have x5b : RX (w4.setCell ⟨br, 2, none⟩ (.slice ua ul uc)) X ⟨o, s, x0.pinned⟩ := (heap_setCell_ne _ _ _ _ _ (by omega)).trans ((hE4.block X hX3 (fun z => z)).trans x3)
      have hnew : ∀ k, Value.ownBlock (.slice ua ul uc) = some k → w2.heap.size ≤ k := fun k hk => by have := (hk4.lt k hk).1; simpa using this
      have e5 : Ext (RFoot br (.slice (some ⟨gv, 0, none⟩) n cap)) w (w4.setCell ⟨br, 2, none⟩ (.slice ua ul uc)) := ext1 e3 q2
      have hs4 := (hE4.block br (lt_of_heap r3.self) (fun z => z)).trans r3.self
      have f4 : w4.frozen? ⟨br, 2, none⟩ = false := free_of_blk hs4 2
      have d4 := (cell_of_blk hs4 2).trans rfl
      have hsz2 : X < w2.heap.size := by simpa using hX3
      clear W r3 x3 e3 hE4 hk4 q2 hs4 hX3 hc2 y5 x5 fx5
      have L0 : RLoop w (w4.setCell ⟨br, 2, none⟩ (.slice ua ul uc)) br X B s (.slice (some ⟨gv, 0, none⟩) n cap) (a0 ++ b0) [] (a0 ++ b0) [] (.slice ua ul uc) (.slice none 0 0) ⟨o, s, x0.pinned⟩ := ⟨⟨rfl, rfl⟩, q1, World.ownsRow_nil _ _ _ _, x5b, e5, fun k hk => ⟨fun e => by have := hnew k hk; omega, .inl (by have := hnew k hk; omega), by simp [Value.ownBlock]⟩, hXb, hlt, fun y hy => HZ.out y (by rw [← HXS.out]; simp at hy ⊢; rcases hy with hy | hy <;> simp [hy]), by have := HN0.out; simp; omega, by have h1 := HU.out; have h2 := HZ.out x0 (by rw [← HXS.out]; simp); rw [← HXS.out, usedOf_append, usedOf_cons] at h1; rw [List.nil_append, usedOf_append]; omega⟩
      clear q1 x5b e5 hnew
      obtain ⟨j34, hi, hz0, hz1, hz2⟩ := info_parts info34
      obtain ⟨j55, ki, kz0, kz1, kz2⟩ := info_parts info55
      have HL0 := toHid L0
      clear L0
      go_wp2
      go_loopg [9, 13, 14] (a0 ++ b0).length (fun g al out i wl => ∃ (a c : List Kept) (gone : List Own) (u : Value) (aa2 : Int), i = .int .i64 a.length ∧ al = .int .i64 aa2 ∧ c.length ≤ g ∧ Hid (aa2 = usedOf (a ++ c) + s) ∧ RLoop w wl br X B s (.slice (some ⟨gv, 0, none⟩) n cap) (a0 ++ b0) a c gone u out ⟨o, s, x0.pinned⟩)
      case atStart => exact ⟨[], (a0 ++ b0), [], _, aa, rfl, rfl, Nat.le_refl _, by have := HA.out; show _ = _; simp only [List.nil_append]; omega, HL0.out⟩
      case round =>
        obtain ⟨a, c, gone, u, aa2, rfl, rfl, hg, HA2, HL⟩ := hrel
        have hr := HL.rep
        obtain ⟨uv, ucap, hus, hucap, humax, huav⟩ := hr.gen
        obtain ⟨m, HM⟩ : ∃ m, Hid ((a ++ c).length = m) := ⟨_, rfl⟩
        have hm1 : (a ++ c).length ≤ 1000000 := by have := HL.few; omega
        rw [HM.out] at hus hucap huav hm1
        subst hus
        have hc1 := hr.c1
        have hc2 := hr.c2
        have hu0 : 0 ≤ usedOf (a ++ c) := used_pos HL.size
        have hu1 := HL.used
        have k1 : 0 ≤ aa2 := by have := HA2.out; omega
        have k2 : aa2 ≤ 1073807360 := by have := HA2.out; omega
        clear hu0 hu1
        by_cases hgo : ∃ y c', c = y :: c' ∧ B < aa2
        · obtain ⟨y, c', rfl, hgt⟩ := hgo
          have ham : a.length < m := by rw [← HM.out]; simp
          obtain ⟨ug, rfl⟩ := huav (by rw [← HM.out]; simp; omega)
          obtain ⟨y0, y1, y2, y3, y4, y5⟩ := kept_cells hr.list
          obtain ⟨z1, z2⟩ := HL.size y (by simp)
          have hgu : B < usedOf (a ++ y :: c') + s := by rw [← HA2.out]; exact hgt
          have hal0 : (0 : Int) ≤ (a.length : Int) := Int.natCast_nonneg _
          have hbl : br < wr.heap.size := lt_of_heap hr.self
          cases hyp : y.pinned
          · rw [hyp] at y5
            have hown := (HL.keys : World.ownsRow _ _ 34 4 _ gone.length (keyCells gone))
            have hfew := HL.few
            have hgl : gone.length + 1 ≤ 1000000 := by simp only [List.length_append, List.length_cons] at hfew; omega
            clear hr hfew
            go_wp2_with (first | (at_builtin; refine wpList_append_lies _ rfl (.tmp 136) (.tmp 145) 43 rfl (X + 1) 34 j34 _ 4 32 Try.underlying43 hi hz0 hz1 hz2 rfl (by decide) _ _ _ rfl (hown.alloc _) ⟨wr.heap.size, 0, none⟩ 1 1 (keyCells [y.key]) rfl rfl ?c1 ?c2 (by omega) ?c3 ?c4 ?c5 _ rfl ?_) | go_in)
            case c1 => intro j u hj; first | exact keyCells_at (heap_alloc_new wr _) j u hj | (rw [keyCells_one] at hj; exact hj)
            case c2 => exact keyCells_oneCell _
            case c3 => unfold maxLen; omega
            case c4 => omega
            case c5 => have := lt_of_heap HL.row; simp; omega
            intro g' cap' w1 hown' hgrow hloc hlt'
            obtain ⟨r1, x1, e1⟩ := HL.app hgrow
            have HK : KeysAt w1 (X + 1) (.slice (some ⟨g', 0, none⟩) (gone.length + 1) cap') (gone ++ [y.key]) := KeysAt.snoc hown'
            clear hown' hgrow hloc hlt' hown y0 y1 y2 y3 y4 y5 hc1 hc2 hbl
            have hc2 := r1.c2
            obtain ⟨_, _, _, _, y4, _⟩ := kept_cells r1.list
            have W := without_walk br ug m ucap a.length a c' y w1 hc2 r1.list (by rw [← HM.out, List.length_append, List.length_cons]; omega) rfl hucap hm1 humax
            go_wp2_with fail
            refine W.mono ?_
            rintro e w3 ⟨u2, rfl, hk3, hE3⟩
            obtain ⟨ua, ul, uc, rfl⟩ := hk3.shape
            have HD := HL.drop hgu hyp r1 x1 e1 HK hE3 hk3
            have hs3 := (hE3.block br (lt_of_heap r1.self) (fun z => z)).trans r1.self
            have f2 : w3.frozen? ⟨br, 2, none⟩ = false := free_of_blk hs3 2
            have d2 := (cell_of_blk hs3 2).trans rfl
            clear W r1 x1 e1 HK hE3 hk3 hs3 hc2 y4
            go_wp2
            go_roundg c'.length
            case measure => simp at hg; omega
            case rel => exact ⟨a, c', gone ++ [y.key], _, aa2 - y.size, by go_num, rfl, Nat.le_refl _, by have := HA2.out; show _ = _; simp only [usedOf_append, usedOf_cons] at this ⊢; omega, HD⟩
          · rw [hyp] at y5
            clear hr
            go_wp2
            go_roundg c'.length
            case measure => simp at hg; omega
            case rel => exact ⟨a ++ [y], c', gone, _, aa2, by simp, rfl, Nat.le_refl _, by rw [List.append_assoc]; exact HA2, HL.keep hgu hyp⟩
        · have hdone : ¬ B < usedOf (a ++ c) + s ∨ c = [] := by
            cases c with
            | nil => exact .inr rfl
            | cons y c' => exact .inl fun hh => hgo ⟨y, c', rfl, by rw [HA2.out]; exact hh⟩
          have hway : m ≤ a.length ∨ (a.length < m ∧ aa2 ≤ B) := by
            cases c with
            | nil => left; rw [← HM.out]; simp
            | cons y c' =>
              right
              refine ⟨by rw [← HM.out]; simp, ?_⟩
              have : ¬ B < aa2 := fun hh => hgo ⟨y, c', rfl, hh⟩
              omega
          obtain ⟨t0, t1, t2, t3, t4, t5⟩ := HL.row.cells
          have hbl : br < wr.heap.size := lt_of_heap hr.self
          have hXl := lt_of_heap HL.row
          have hown55 : wr.ownsRow 0 55 6 (.slice uv m ucap) m (keptCells (a ++ c)) := by have := hr.list; unfold KeptAt at this; rw [HM.out] at this; exact this
          have hapart : some br ≠ Value.ownBlock (.slice uv m ucap) := fun e => hr.apart e.symm
          have hxpart : some X ≠ Value.ownBlock (.slice uv m ucap) := fun e => (HL.own X e.symm).1 rfl
          have hselfr := hr.self
          have hal0 : (0 : Int) ≤ (a.length : Int) := Int.natCast_nonneg _
          have HDN := toHid hdone
          clear hr hgo hdone huav
          rcases hway with hw1 | ⟨hw1, hw2⟩
          all_goals
            go_wp2
            go_region_law (first | (refine step_append_lies _ (by rfl) (.tmp 169) (.tmp 171) _ (by rfl) 0 55 j55 _ 6 48 Try.underlying51 ki kz0 kz1 kz2 rfl (by omega) _ _ _ (by rfl) (hown55.alloc _) ⟨wr.heap.size, 0, none⟩ 1 1 (keptCells [⟨o, s, x0.pinned⟩]) (by rfl) rfl (news_kept (x := ⟨o, s, x0.pinned⟩) (heap_alloc_new wr _)) (keptCells_one _) (by omega) (by unfold maxLen; omega) (by omega) (Nat.zero_le _) (wr.heap.size + 1) (by simp) ?_; intro gg cap4 w4 hown4 hgrow4 hat4 hlt4; have hs4 := (hgrow4.block br (by simp; omega) hapart).trans ((heap_alloc_old wr _ _ hbl).trans hselfr); have d4 : w4.cell? ⟨br, 2, none⟩ = some (.slice uv m ucap) := (cell_of_blk hs4 2).trans rfl; have f4 : w4.frozen? ⟨br, 2, none⟩ = false := free_of_blk hs4 2))
            all_goals
              have HF := HL.finish (n := 1) rfl (HDN.out.elim (fun h => .inl (by omega)) .inr) hgrow4 (fun k hk => by simp only [Value.ownBlock, Option.some.injEq] at hk; subst hk; exact hat4) (KeptAt.snoc' hown4 (by rw [HM.out]))
              clear hown4 hgrow4 hat4 hlt4 hs4 d4 f4 HL
              go_wp2
              go_ret2
              exact HF

end Go.Proofs.Ytkloaadaicklfaa
