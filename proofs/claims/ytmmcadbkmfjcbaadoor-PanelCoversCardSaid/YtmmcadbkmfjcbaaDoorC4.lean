/-
  slices.Replace of two rectangles by one: the walk.
-/
import Derived.Test.YtmmcadbkmfjcbaaDoorC3
import Derived.StillTailTactics
namespace Go.Proofs.YtmmcadbkmfjcbaaDoor
open Go.RowKit
attribute [local go_sem] alloc_drewN setCell_drewN

theorem rects_row {w : World} {base g n cap : Nat} {rs : List R} (h : RectsAt w base (.slice (some ⟨g, 0, none⟩) n cap) rs) : rs.length = n ∧ base ≤ g ∧ n ≤ cap ∧ cap ≤ maxLen ∧ ∃ sp, Row w g (rectCells rs ++ sp) ∧ (rectCells rs ++ sp).length = cap * 4 := by
  obtain ⟨hl, ⟨hv, _⟩ | ⟨g', cap', cur, hv, h1, h2, h3, h4, h5, h6⟩⟩ := h
  · cases hv
  · injection hv with e1 e2 e3
    injection e1 with e1
    injection e1 with e1
    subst e1 e2 e3
    refine ⟨rfl, h1, h3, h4, cur.toList.drop (rs.length * 4), ?_, ?_⟩
    · rw [← h6, List.take_append_drop]; exact h2
    · rw [← h6, List.take_append_drop]; simpa using h5
theorem row_rects {w : World} {base g cap : Nat} {rs : List R} {cur sp : List Value} (h : Row w g cur) (hc : cur = rectCells rs ++ sp) (hl : cur.length = cap * 4) (h1 : base ≤ g) (h2 : rs.length ≤ cap) (h3 : cap ≤ maxLen) : RectsAt w base (.slice (some ⟨g, 0, none⟩) rs.length cap) rs := by
  refine ⟨rectCells_length _, .inr ⟨g, cap, cur.toArray, rfl, h1, h, h2, h3, by simpa using hl, ?_⟩⟩
  rw [hc]
  simp [← rectCells_length]

set_option maxRecDepth 100000 in
set_option maxHeartbeats 2000000 in
theorem replace_tail {w : World} {g cap b q : Nat} {c : R} (cur : List Value) (hO : Row w g cur) (hl : cur.length = cap * 4) (_hcap : cap ≤ maxLen) (hb : b + 2 ≤ cap) (hb2 : b ≤ 1000) (hq : w.heap[q]? = some (.cells (rCells c) 31 (0, 0))) :
    Calls Tryd.prog 41 #[.slice (some ⟨g, 0, none⟩) (b + 2) cap, .int .i64 b, .int .i64 ((b : Int) + 2), .slice (some ⟨q, 0, none⟩) 1 1] w fun e w' => e = .returned (.slice (some ⟨g, 0, none⟩) (b + 1) cap) ∧ Row w' g (splice (splice cur (b * 4) (rectCells [c])) ((b + 1) * 4) (rectCells [zeroR])) ∧ Ext (fun k => k = g) w w' := by
  have hgl := lt_of_heap hO
  go_enter Tryd.func41, Tryd.ntmps41
  go_wp2_with (first
    | (at_builtin; refine wl_room rfl (.tmp 32) (.tmp 33) 46 rfl Tryd.underlying46 g 0 b cap ⟨q, 0, none⟩ 1 1 rfl rfl cur hO (rectCells [c]) rfl (by omega) (rCells_at hq) (by rw [rectCells_length]; simp; omega) (rectCells_oneCell _) ?_; intro w2 HR2 E2)
    | (refine wl_clear rfl (.tmp 43) 46 rfl Tryd.underlying46 g ((b + 1) * 4) (cap - (b + 1)) rfl _ HR2.out (by rw [length_splice _ _ _ (by rw [rectCells_length]; simp; omega)]; omega) ?_; intro w3 HR3 E3))
  go_ret
  exact ⟨rfl, by simpa using HR3.out, E2.trans E3 (fun _ _ h => h)⟩

theorem row_src {w : World} {g : Nat} {L : List R} {sp : List Value} (h : Row w g (rectCells L ++ sp)) (k : Nat) : ∀ (j : Nat) (v : Value), (rectCells (L.drop k))[j]? = some v → w.cell? (Addr.add ⟨g, k * 4, none⟩ j) = some v := by
  intro j v hv
  have hj := (List.getElem?_eq_some_iff.1 hv).1
  rw [rectCells_length, List.length_drop] at hj
  rw [← rectCells_drop, List.getElem?_drop] at hv
  have e : (Addr.add ⟨g, k * 4, none⟩ j : Addr) = ⟨g, k * 4 + j, none⟩ := by unfold Addr.add; split <;> simp_all
  rw [e, cell_of_blk h]
  rw [List.getElem?_toArray, List.getElem?_append_left (by rw [rectCells_length]; omega)]
  exact hv

set_option maxRecDepth 100000 in
set_option maxHeartbeats 2000000 in
theorem replace_mid {w : World} {g n cap b q : Nat} {c : R} (rs : List R) (sp : List Value) (hO : Row w g (rectCells rs ++ sp)) (hn : rs.length = n) (hl : (rectCells rs ++ sp).length = cap * 4) (_hcap : cap ≤ maxLen) (hncap : n ≤ cap) (hb : b + 2 < n) (hb2 : n ≤ 1000) (hq : w.heap[q]? = some (.cells (rCells c) 31 (0, 0))) :
    Calls Tryd.prog 41 #[.slice (some ⟨g, 0, none⟩) n cap, .int .i64 b, .int .i64 ((b : Int) + 2), .slice (some ⟨q, 0, none⟩) 1 1] w fun e w' => e = .returned (.slice (some ⟨g, 0, none⟩) (n - 1) cap) ∧ Row w' g (rectCells (splice (splice (splice rs b [c]) (b + 1) (rs.drop (b + 2))) (n - 1) [zeroR]) ++ sp) ∧ Ext (fun k => k = g) w w' := by
  have hgl := lt_of_heap hO
  obtain ⟨L1, hL1⟩ : ∃ L1, splice rs b [c] = L1 := ⟨_, rfl⟩
  have hs1 : splice (rectCells rs ++ sp) (b * 4) (rectCells [c]) = rectCells L1 ++ sp := by rw [splice_rects _ _ _ _ (by simp; omega), hL1]
  have hl1 : L1.length = n := by rw [← hL1, length_splice _ _ _ (by simp; omega), hn]
  have hd1 : L1.drop (b + 2) = rs.drop (b + 2) := by
    rw [← hL1]; unfold splice
    rw [List.drop_append, List.length_take, show min b rs.length = b by omega, List.drop_eq_nil_of_le (by rw [List.length_take]; omega), show b + 2 - b = 1 + 1 by omega]
    simp
  obtain ⟨L2, hL2⟩ : ∃ L2, splice L1 (b + 1) (rs.drop (b + 2)) = L2 := ⟨_, rfl⟩
  have hlen2 : (rs.drop (b + 2)).length = n - (b + 2) := by rw [List.length_drop, hn]
  have hs2 : splice (rectCells L1 ++ sp) ((b + 1) * 4) (rectCells (L1.drop (b + 2))) = rectCells L2 ++ sp := by rw [hd1, splice_rects _ _ _ _ (by omega), hL2]
  have hl2 : L2.length = n := by rw [← hL2, length_splice _ _ _ (by omega), hl1]
  have hs3 : splice (rectCells L2 ++ sp) ((n - 1) * 4) (rectCells [zeroR]) = rectCells (splice L2 (n - 1) [zeroR]) ++ sp := splice_rects _ _ _ _ (by simp; omega)
  have hc1 : (rectCells L1 ++ sp).length = cap * 4 := by rw [← hl, List.length_append, List.length_append, rectCells_length, rectCells_length, hl1, hn]
  have hc2 : (rectCells L2 ++ sp).length = cap * 4 := by rw [← hl, List.length_append, List.length_append, rectCells_length, rectCells_length, hl2, hn]
  have hx1 : (rectCells (L1.drop (b + 2))).length = (n - (b + 2)) * 4 := by rw [rectCells_length, List.length_drop, hl1]
  have HS := toHid (show _ ∧ _ ∧ _ ∧ _ ∧ _ ∧ _ from ⟨hs1, hs2, hs3, hc1, hc2, hx1⟩)
  clear hs1 hs2 hs3 hl1 hl2 hlen2 hd1
  have HL := toHid (show _ ∧ _ from ⟨hL1, hL2⟩)
  clear hL1 hL2
  obtain ⟨cs, hcs⟩ : ∃ cs, rectCells (L1.drop (b + 2)) = cs := ⟨_, rfl⟩
  rw [hcs] at HS
  have HCS := toHid hcs
  clear hcs hc1 hc2 hx1
  have HN := toHid hn
  clear hn
  go_enter Tryd.func41, Tryd.ntmps41
  go_wp2
  go_quiet (fail)
  have hO0 : ∀ m, Row (w.drewN m) g (rectCells rs ++ sp) := fun _ => hO
  have q1 : ∀ m, ∀ (j : Nat) (v : Value), (rectCells [c])[j]? = some v → (w.drewN m).cell? (Addr.add ⟨q, 0, none⟩ j) = some v := fun m => rCells_at (w := w.drewN m) hq
  have q2 : (rectCells [c]).length = Nat.min 1 (b + 1 + (n - (b + 2)) - b) * 4 := by
    have : Nat.min 1 (b + 1 + (n - (b + 2)) - b) = 1 := Nat.min_eq_left (by omega)
    rw [this]; rfl
  have q3 : b * 4 + (rectCells [c]).length ≤ (rectCells rs ++ sp).length := by rw [hl, rectCells_length, List.length_singleton]; omega
  have HQ := toHid (show _ ∧ _ ∧ _ ∧ _ from ⟨hO0, q1, q2, q3⟩)
  clear hO0 q1 q2 q3
  go_wp2_with (refine wl_copy rfl (.tmp 95) (.tmp 96) 46 46 rfl Tryd.underlying46 g (b * 4) _ _ ⟨q, 0, none⟩ 1 1 rfl rfl (rectCells rs ++ sp) (HQ.out.1 _) (rectCells [c]) HQ.out.2.2.1 (HQ.out.2.1 _) HQ.out.2.2.2 (rectCells_oneCell _) ?_; intro w2 HR2 E2)
  rw [HS.out.1] at HR2
  have hsrc := row_src HR2.out (b + 2)
  rw [HCS.out] at hsrc
  have E2' : Ext (fun k => k = g) w w2 := Ext.trans ((Ext.refl _ w).drewN _) E2 (fun _ _ h => h)
  clear E2
  have s1 : IntKind.i64.wrap ((b : Int) + 1) = (b : Int) + 1 := IntWalk.i64_in _ (by omega)
  have s2 : (0 : Int) ≤ (b : Int) + 1 := by omega
  have s3 : (b : Int) + 1 ≤ (b : Int) + 1 + ((n - (b + 2) : Nat) : Int) := by omega
  have s4 : ((b : Int) + 1).toNat = b + 1 := by omega
  have s5 : ¬ cap = b + 1 := by omega
  have s6 : (0 : Int) ≤ (b : Int) + 2 := by omega
  have s7 : (b : Int) + 2 ≤ (n : Int) := by omega
  have s8 : ((b : Int) + 2).toNat = b + 2 := by omega
  have s9 : ¬ cap = b + 2 := by omega
  have hO0 : ∀ m, Row (w2.drewN m) g (rectCells L1 ++ sp) := fun _ => HR2.out
  have hO1 : Row w2.drew g (rectCells L1 ++ sp) := HR2.out
  have q1 : ∀ (j : Nat) (v : Value), cs[j]? = some v → w2.drew.cell? (Addr.add ⟨g, (b + 2) * 4, none⟩ j) = some v := hsrc
  have q2 : cs.length = Nat.min (n - (b + 2)) (n - (b + 2)) * 4 := by
    have : Nat.min (n - (b + 2)) (n - (b + 2)) = n - (b + 2) := Nat.min_self _
    rw [this]; exact HS.out.2.2.2.2.2
  have q3 : (b + 1) * 4 + cs.length ≤ (rectCells L1 ++ sp).length := by rw [HS.out.2.2.2.1, HS.out.2.2.2.2.2]; omega
  have q4 : ∀ v ∈ cs, v.oneCell' = true := by rw [← HCS.out]; exact rectCells_oneCell _
  have HQ2 := toHid (show _ ∧ _ ∧ _ ∧ _ ∧ _ from ⟨hO1, q1, q2, q3, q4⟩)
  clear hO0 hO1 q1 q2 q3 q4 hsrc
  go_still_tail 9, (by kernel_rfl)
  change wpList _ _ _ _ _ w2.drew
  clear s1 s2 s3 s4 s5 s6 s7 s8 s9
  refine wl_copy rfl (.tmp 103) (.tmp 106) 46 46 rfl Tryd.underlying46 g ((b + 1) * 4) _ _ ⟨g, (b + 2) * 4, none⟩ _ _ rfl rfl (rectCells L1 ++ sp) HQ2.out.1 cs HQ2.out.2.2.1 HQ2.out.2.1 HQ2.out.2.2.2.1 HQ2.out.2.2.2.2 ?_
  intro w3 HR3 E3
  rw [HS.out.2.1] at HR3
  have E3' : Ext (fun k => k = g) w w3 := Ext.trans E2'.drew E3 (fun _ _ h => h)
  have q5 : (n - 1) * 4 + 4 ≤ (rectCells L2 ++ sp).length := by rw [HS.out.2.2.2.2.1]; omega
  have t1 : b + 1 + (n - (b + 2)) = n - 1 := by omega
  have t2 : (b : Int) + 1 + ((n - (b + 2) : Nat) : Int) = ((n - 1 : Nat) : Int) := by omega
  have t3 : n - (n - 1) = 1 := by omega
  have t4 : ((n - 1 : Nat) : Int) ≤ (n : Int) := by omega
  rw [t1, t2]
  go_wp2_with (refine wl_clear rfl (.tmp 110) 46 rfl Tryd.underlying46 g ((n - 1) * 4) (cap - (n - 1)) rfl _ HR3.out q5 ?_; intro w4 HR4 E4)
  have E4' : Ext (fun k => k = g) w w4 := Ext.trans E3' E4 (fun _ _ h => h)
  rw [HS.out.2.2.1] at HR4
  rw [HL.out.1, HL.out.2]
  go_ret
  exact ⟨rfl, HR4.out, E4'⟩

theorem joined (rs : List R) (b n : Nat) (c : R) (hn : rs.length = n) (hb : b + 2 ≤ n) : splice (splice (splice rs b [c]) (b + 1) (rs.drop (b + 2))) (n - 1) [zeroR] = (rs.take b ++ c :: rs.drop (b + 2)) ++ [zeroR] := by
  obtain ⟨A, D, x, y, rfl, hA⟩ : ∃ A D x y, rs = A ++ x :: y :: D ∧ A.length = b := by
    obtain ⟨x, a1, a2, e1, e2⟩ := nth_split (xs := rs) (k := b) (by omega)
    subst e1
    cases a2 with
    | nil => simp at hn; omega
    | cons y D => exact ⟨a1, D, x, y, rfl, e2⟩
  subst hA
  have h1 : (A ++ x :: y :: D).drop (A.length + 2) = D := by simp
  have h2 : (A ++ x :: y :: D).take A.length = A := by simp
  have h3 : splice (A ++ x :: y :: D) A.length [c] = A ++ c :: y :: D := by unfold splice; simp
  rw [h1, h2, h3]
  have h4 : splice (A ++ c :: y :: D) (A.length + 1) D = (A ++ c :: D) ++ (A ++ c :: y :: D).drop (A.length + 1 + D.length) := by
    unfold splice
    have e : (A ++ c :: y :: D).take (A.length + 1) = A ++ [c] := by
      rw [show A ++ c :: y :: D = (A ++ [c]) ++ y :: D by simp, show A.length + 1 = (A ++ [c]).length by simp, List.take_left]
    rw [e]
    simp
  rw [h4]
  simp at hn
  unfold splice
  have h5 : n - 1 = (A ++ c :: D).length := by simp; omega
  rw [h5, List.take_left]
  rw [List.drop_eq_nil_of_le (by simp; omega)]
  simp

/-- slices.Replace of two rectangles by one. -/
theorem replace_calls {w : World} {base g n cap b q : Nat} {c : R} {rs : List R} (hO : RectsAt w base (.slice (some ⟨g, 0, none⟩) n cap) rs) (hb : b + 2 ≤ n) (hb2 : n ≤ 1000) (hq : w.heap[q]? = some (.cells (rCells c) 31 (0, 0))) :
    Calls Tryd.prog 41 #[.slice (some ⟨g, 0, none⟩) n cap, .int .i64 b, .int .i64 ((b : Int) + 2), .slice (some ⟨q, 0, none⟩) 1 1] w fun e w' => e = .returned (.slice (some ⟨g, 0, none⟩) (n - 1) cap) ∧ RectsAt w' base (.slice (some ⟨g, 0, none⟩) (n - 1) cap) (rs.take b ++ c :: rs.drop (b + 2)) ∧ Ext (fun k => k = g) w w' := by
  obtain ⟨h1, h2, h3, h4, sp, h5, h6⟩ := rects_row hO
  have hlen : (rs.take b ++ c :: rs.drop (b + 2)).length = n - 1 := by simp; omega
  have fin : ∀ w' cur, Row w' g cur → cur = rectCells (splice (splice (splice rs b [c]) (b + 1) (rs.drop (b + 2))) (n - 1) [zeroR]) ++ sp → RectsAt w' base (.slice (some ⟨g, 0, none⟩) (n - 1) cap) (rs.take b ++ c :: rs.drop (b + 2)) := by
    intro w' cur hr hc
    have hj := joined rs b n c h1 hb
    have hlc : cur.length = cap * 4 := by
      rw [hc, hj, ← h6, List.length_append, List.length_append, rectCells_length, rectCells_length, List.length_append, hlen, h1]; simp; omega
    have := row_rects (cap := cap) (base := base) (rs := rs.take b ++ c :: rs.drop (b + 2)) (sp := rectCells [zeroR] ++ sp) hr (by rw [hc, hj, rectCells_append]; simp) hlc h2 (by omega) h4
    rw [hlen] at this
    exact this
  by_cases ht : b + 2 = n
  · subst ht
    have hd : rs.drop (b + 2) = [] := List.drop_eq_nil_of_le (by omega)
    refine (replace_tail _ h5 h6 h4 h3 (by omega) hq).mono ?_
    rintro e w' ⟨rfl, hr, he⟩
    refine ⟨rfl, fin w' _ hr ?_, he⟩
    rw [hd, show b + 2 - 1 = b + 1 by omega]
    have e1 : splice (splice rs b [c]) (b + 1) [] = splice rs b [c] := by unfold splice; simp
    rw [e1, splice_rects _ _ _ _ (by simp; omega), splice_rects _ _ _ _ (by rw [length_splice _ _ _ (by simp; omega)]; simp; omega)]
  · refine (replace_mid rs sp h5 h1 h6 h4 h3 (by omega) hb2 hq).mono ?_
    rintro e w' ⟨rfl, hr, he⟩
    exact ⟨rfl, fin w' _ hr rfl, he⟩
end Go.Proofs.YtmmcadbkmfjcbaaDoor
