/-
  rules.Check; what font.Check asks of a lookup.
  Lookups that are read, line by line.
  The second text of sanity, and that its font is right.
-/
import Derived.Test.YtajebdpalnpjdaaGreatDoorM39
import Derived.Test.YtajebdpalnpjdaaGreatDoorM34
namespace Go.Proofs.YtajebdpalnpjdaaGreatDoor
open Go.RowKit
attribute [local go_sem] alloc_drewN setCell_drewN

set_option maxRecDepth 100000 in
set_option maxHeartbeats 4000000 in
/-- rules.Check of right rules -/
theorem rules_check {A : Nat → Prop} {w : World} {v : Value} {rs : List RuleA} (h : Rd A w [v] (rulesD rs)) {k L g : Int} (hc : ∀ r ∈ rs, RuleC r k L g) (hl : rs.length ≤ 8) (hL : 1 ≤ L ∧ L ≤ 12) (hk : 0 ≤ k ∧ k < L) (hg : 1 ≤ g ∧ g ≤ 100) :
    Calls Tryz.prog 30 #[.agg #[v], .int .i64 k, .int .i64 L, .int .i64 g] w fun e w' => e = .returned (.int .i64 0) ∧ Ext Nope w w' := by
  have HC := toHid hc
  obtain ⟨av, cv, hv, hc1, hc2, hat⟩ := Rd.l_inv h
  rw [List.length_map] at hv hc1 hat
  replace hv : v = .slice av rs.length cv := by simpa using hv
  have HAT := toHid hat
  obtain ⟨n, HN⟩ : ∃ n, Hid (rs.length = n) := ⟨_, rfl⟩
  rw [HN.out] at hv hl hc1
  subst hv
  have p1 : ¬ (L < 1) := by omega
  have p2 : ¬ (12 < L) := by omega
  have p3 : ¬ (k < 0) := by omega
  have p4 : ¬ (L ≤ k) := by omega
  have p5 : ¬ (g < 1) := by omega
  have p6 : ¬ (100 < g) := by omega
  have p7 : ¬ (8 < (n : Int)) := by omega
  have q1 := hL.1
  have q2 := hL.2
  have q3 := hk.1
  have q4 := hk.2
  have q5 := hg.1
  have q6 := hg.2
  have q7 : (n : Int) ≤ 8 := by omega
  have q8 : (1 : Int) ≤ L := by omega
  clear h hat hc hL hk hg
  go_enter Tryz.func30, Tryz.ntmps30
  have e1 : Ext Nope w (w.alloc (.cells #[.slice av n cv] 66)) := (Ext.refl _ _).alloc _
  have H1 := toHid e1
  clear e1
  go_wp2_with fail
  generalize w.alloc (.cells #[.slice av n cv] 66) = w1 at *
  go_loopw [42] (fun i wr => ∃ j : Nat, i = .int .i64 j ∧ j ≤ n ∧ Ext Nope w wr) (fun i _ => n - (intOf i).toNat)
  case atStart => exact ⟨0, rfl, Nat.zero_le _, H1.out⟩
  case round =>
    obtain ⟨j, rfl, hj, hE⟩ := hrel
    rename World => wr
    have HE := toHid hE
    clear hE
    by_cases hjn : j < n
    · obtain ⟨r, hr⟩ := nth_some hjn HN.out
      obtain ⟨b, off, rfl, _, hb, hrows⟩ := HAT.out (by rw [HN.out]; omega)
      obtain ⟨us, _, hu2, hrd⟩ := hrows j (ruleD r) (by rw [List.getElem?_map, hr]; rfl)
      obtain ⟨a0, c0, a1, c1, a2, c2, a3, c3, a4, c4, rfl, _⟩ := rule_parts hrd
      generalize r.back.length = m0 at hrd hu2
      generalize r.in_.length = m1 at hrd hu2
      generalize r.ahead.length = m2 at hrd hu2
      generalize r.out.length = m3 at hrd hu2
      generalize r.calls.length = m4 at hrd hu2
      have d0 : wr.cell? ⟨b, off + j * 5, none⟩ = some (.slice a0 m0 c0) := cell_keep HE.out (by simpa using hu2 0 _ rfl)
      have d1 : wr.cell? ⟨b, off + j * 5 + 1, none⟩ = some (.slice a1 m1 c1) := cell_keep HE.out (by simpa using hu2 1 _ rfl)
      have d2 : wr.cell? ⟨b, off + j * 5 + 2, none⟩ = some (.slice a2 m2 c2) := cell_keep HE.out (by simpa using hu2 2 _ rfl)
      have d3 : wr.cell? ⟨b, off + j * 5 + 3, none⟩ = some (.slice a3 m3 c3) := cell_keep HE.out (by simpa using hu2 3 _ rfl)
      have d4 : wr.cell? ⟨b, off + j * 5 + 4, none⟩ = some (.slice a4 m4 c4) := cell_keep HE.out (by simpa using hu2 4 _ rfl)
      have ea : Ext Nope w (wr.alloc (.cells #[.slice a0 m0 c0, .slice a1 m1 c1, .slice a2 m2 c2, .slice a3 m3 c3, .slice a4 m4 c4] 81)) := HE.out.alloc _
      have HK := toHid (rule_check (hrd.ext0 ea) (HC.out r (List.mem_of_getElem? hr)))
      have HA := toHid ea
      have s1 : (0 : Int) ≤ (j : Int) := by omega
      have s2 : (j : Int) < (n : Int) := by omega
      have s3 : IntKind.i64.wrap ((j : Int) + 1) = (j : Int) + 1 := IntWalk.i64_in _ (by omega)
      clear hr hrows hu2 hrd ea hb
      go_wp2_with fail
      refine HK.out.mono ?_
      rintro e w3 ⟨rfl, e3⟩
      have H3 := toHid (ext0 HA.out e3)
      clear e3 d0 d1 d2 d3 d4
      go_wp2
      go_roundw
      case rel => exact ⟨j + 1, by go_num, by omega, H3.out⟩
      case measure => simp [intOf]; omega
    · have hjj : j = n := by omega
      subst hjj
      go_wp2
      go_ret
      exact ⟨rfl, HE.out⟩
set_option maxRecDepth 100000 in
set_option maxHeartbeats 4000000 in
/-- What font.Check asks of a lookup. -/
theorem look_closure {A : Nat → Prop} {w : World} {t : TV} {bb : Nat} (hz : w.heap[bb]? = some (.cells t.cells 36 (0, 0))) {cs : List Value} {rs : LookupA} {k : Nat} (hr : Rd A w cs (lookupD rs)) (hc : ∀ r ∈ rs, RuleC r k t.nl t.f.cnt) (hl : rs.length ≤ 8) (hL : k < t.nl ∧ t.nl ≤ 12) (hg : 1 ≤ t.f.cnt ∧ t.f.cnt ≤ 100)
    (hin : ∀ r ∈ rs, ∃ s t, r.in_ = s :: t ∧ 0 < s.length ∧ s.length ≤ 1000) (hi : Incr (firstRaw rs)) (h0 : 0 < (firstRaw rs).length) {hs : List HeadA} {hd : HeadA} (hH : Rd A w [.slice t.f.a7 t.f.n7 t.f.c7] (.l 2 (hs.map headD))) (hk : hs[k]? = some hd) (hf : hd.first = firstRaw rs) :
    Calls Tryz.prog 29 #[.int .i64 k, .agg cs.toArray, ptr bb] w fun e w' => e = .returned (.int .i64 0) ∧ Ext Nope w w' := by
  obtain ⟨v, _, rfl, hv, hr'⟩ := Rd.rl hr
  obtain rfl := hr'.r_nil
  obtain ⟨⟨ver, cnt, a5, n5, k5, a7, n7, k7⟩, al, nl, cl, ag, ng, cg⟩ := t
  have hL : k < nl ∧ nl ≤ 12 := hL
  have hg : 1 ≤ cnt ∧ cnt ≤ 100 := hg
  have hc : ∀ r ∈ rs, RuleC r k nl cnt := hc
  have hH : Rd A w [.slice a7 n7 k7] (.l 2 (hs.map headD)) := hH
  have HCH := toHid (show ∀ W, Ext Nope w W → _ from fun W e => rules_check (hv.ext0 e) hc hl (L := nl) (by omega) (k := k) (by omega) hg)
  have HFI := toHid (show ∀ W, Ext Nope w W → _ from fun W e => first_calls (hv.ext0 e) hin hi (by omega))
  obtain ⟨av, cv, hv1, _⟩ := hv.len
  rw [List.length_map] at hv1
  generalize rs.length = nr at hv1
  subst hv1
  -- the head's first glyphs
  obtain ⟨a7', c7', e7, _, _, hat⟩ := hH.l_inv
  rw [List.length_map] at e7 hat
  have e7 : a7 = a7' ∧ n7 = hs.length ∧ k7 = c7' := by simpa using e7
  obtain ⟨rfl, hn7, rfl⟩ := e7
  have hkl := (List.getElem?_eq_some_iff.1 hk).1
  obtain ⟨bh, oh, rfl, _, hbh, hel⟩ := hat (by omega)
  obtain ⟨us, _, hu, hrd⟩ := hel k (headD hd) (by rw [List.getElem?_map, hk]; rfl)
  obtain ⟨_, rfl, _, hrd⟩ := hrd.ri
  obtain ⟨vf, _, rfl, hvf, hrd⟩ := hrd.rl
  obtain rfl := hrd.r_nil
  have hvf : Rd A w [vf] (intsD (firstRaw rs)) := by rw [← hf]; exact hvf
  obtain ⟨af, cf, hvf1, hcf1, hcf2, _, hcell⟩ := hvf.ints_inv
  obtain ⟨bf, offf, rfl, _, hbf, hcell⟩ := hcell h0
  have cH : w.cell? ⟨bh, oh + k * 2 + 1, none⟩ = some vf := by simpa using hu 1 _ rfl
  subst hvf1
  have HF := toHid (show _ ∧ _ ∧ _ ∧ _ from ⟨hcell, h0, hcf1, hcf2⟩)
  obtain ⟨nf, HNF⟩ : ∃ n, Hid ((firstRaw rs).length = n) := ⟨_, rfl⟩
  rw [HNF.out] at cH
  have hkn : (k : Int) < (n7 : Int) := by omega
  have hk0 : (0 : Int) ≤ (k : Int) := by omega
  have hbz : bb < w.heap.size := lt_of_heap hz
  have e1 : Ext Nope w (w.alloc (.cells #[.slice av nr cv] 66)) := (Ext.refl _ _).alloc _
  have z1 := heap_alloc_new w (.cells #[.slice av nr cv] 66)
  have cells : ∀ W, Ext Nope (w.alloc (.cells #[.slice av nr cv] 66)) W → W.heap[bb]? = some (.cells (TV.cells ⟨⟨ver, cnt, a5, n5, k5, some ⟨bh, oh, none⟩, n7, k7⟩, al, nl, cl, ag, ng, cg⟩) 36 (0, 0)) ∧ W.cell? ⟨w.heap.size, 0, none⟩ = some (.slice av nr cv) ∧ W.cell? ⟨bh, oh + k * 2 + 1, none⟩ = some (.slice (some ⟨bf, offf, none⟩) nf cf) := fun W e => by
    have ee : Ext Nope w W := ext0 e1 e
    refine ⟨(ee.block _ hbz (fun z => z)).trans hz, ?_, cell_keep ee cH⟩
    rw [show (⟨w.heap.size, 0, none⟩ : Addr) = at_ w.heap.size 0 from rfl, cell_of_blk ((e.block _ (lt_of_heap z1) (fun z => z)).trans z1)]
    rfl
  have HCE := toHid cells
  have H1 := toHid e1
  obtain ⟨x0, x1, x2, x3, x4, x5, x6, x7, x8, x9, x10⟩ := font_cells (cells _ (Ext.refl _ _)).1
  have y0 := (cells _ (Ext.refl _ _)).2.1
  clear cells e1 z1 hz hv hr hH hat hel hu hcell hvf cH hbf hbh hk hf hi hin h0 hc hl hn7 hkl hL hg hbz
  go_enter Tryz.func29, Tryz.ntmps29
  go_wp2_with fail
  generalize w.alloc (.cells #[.slice av nr cv] 66) = w1 at *
  refine (HCH.out _ H1.out).mono ?_
  rintro e w2 ⟨rfl, e2⟩
  obtain ⟨b2, y2, ch2⟩ := HCE.out w2 e2
  have c72 := (font_cells b2).2.2.2.2.2.2.2.1
  have H2 := toHid e2
  clear e2 b2 x0 x1 x2 x3 x4 x5 x6 x7 x8 x9 x10 y0
  go_upto_region 2 with fail
  refine wp_region_head 14 (fun w' => w'.cell? ⟨bb, 7, none⟩ = some (.slice (some ⟨bh, oh, none⟩) n7 k7) ∧ w'.cell? ⟨w.heap.size, 0, none⟩ = some (.slice av nr cv) ∧ w'.cell? ⟨bh, oh + k * 2 + 1, none⟩ = some (.slice (some ⟨bf, offf, none⟩) nf cf)) (by kernel_rfl) (by kernel_rfl) ⟨c72, y2, ch2⟩ (fun hO hHeld => ?_)
  refine wpAnyT_takeD (i := 0) (d := some 16) (v := ?_) hO rfl rfl (by kernel_rfl) (fun _ _ _ h => h) (Or.inl ⟨by rfl, ?_⟩) (by exact hHeld) ?_
  rotate_left
  · intro w' hSw
    obtain ⟨hx1, hx2, hx3⟩ := hSw
    go_simp
    try (with_reducible rfl)
  try simp only [Act.put, List.setIfInBounds_toArray, List.set_cons_zero, List.set_cons_succ]
  refine wpAnyT_takeD (i := 1) (d := some 17) (v := ?_) hO rfl rfl (by kernel_rfl) (fun _ _ _ h => h) (Or.inl ⟨by rfl, ?_⟩) (by exact hHeld) ?_
  rotate_left
  · intro w' hSw
    obtain ⟨hx1, hx2, hx3⟩ := hSw
    go_simp
    try (with_reducible rfl)
  try simp only [Act.put, List.setIfInBounds_toArray, List.set_cons_zero, List.set_cons_succ]
  refine wpAnyT_takeD (i := 2) (d := some 18) (v := ?_) hO rfl rfl (by kernel_rfl) (fun _ _ _ h => h) (Or.inl ⟨by rfl, ?_⟩) (by exact hHeld) ?_
  rotate_left
  · intro w' hSw
    obtain ⟨hx1, hx2, hx3⟩ := hSw
    go_simp
    try (with_reducible rfl)
  try simp only [Act.put, List.setIfInBounds_toArray, List.set_cons_zero, List.set_cons_succ]
  refine wpAnyT_takeD (i := 3) (d := some 19) (v := ?_) hO rfl rfl (by kernel_rfl) (fun _ _ _ h => h) (Or.inl ⟨by rfl, ?_⟩) (by exact hHeld) ?_
  rotate_left
  · intro w' hSw
    obtain ⟨hx1, hx2, hx3⟩ := hSw
    go_simp
    try (with_reducible rfl)
  try simp only [Act.put, List.setIfInBounds_toArray, List.set_cons_zero, List.set_cons_succ]
  refine wpAnyT_takeD (i := 5) (d := some 21) (v := ?_) hO rfl rfl (by kernel_rfl) (fun _ _ _ h => h) (Or.inl ⟨by rfl, ?_⟩) (by exact hHeld) ?_
  rotate_left
  · intro w' hSw
    obtain ⟨hx1, hx2, hx3⟩ := hSw
    go_simp
    try (with_reducible rfl)
  try simp only [Act.put, List.setIfInBounds_toArray, List.set_cons_zero, List.set_cons_succ]
  refine wpAnyT_takeD (i := 6) (d := some 22) (v := ?_) hO rfl rfl (by kernel_rfl) (fun _ _ _ h => h) (Or.inl ⟨by rfl, ?_⟩) (by exact hHeld) ?_
  rotate_left
  · intro w' hSw
    obtain ⟨hx1, hx2, hx3⟩ := hSw
    go_simp
    try (with_reducible rfl)
  try simp only [Act.put, List.setIfInBounds_toArray, List.set_cons_zero, List.set_cons_succ]
  refine wpAnyT_takeD (i := 7) (d := some 23) (v := ?_) hO rfl rfl (by kernel_rfl) (fun _ _ _ h => h) (Or.inl ⟨by rfl, ?_⟩) (by exact hHeld) ?_
  rotate_left
  · intro w' hSw
    obtain ⟨hx1, hx2, hx3⟩ := hSw
    go_simp
    try (with_reducible rfl)
  try simp only [Act.put, List.setIfInBounds_toArray, List.set_cons_zero, List.set_cons_succ]
  refine wpAnyT_takeD (i := 8) (d := some 24) (v := ?_) hO rfl rfl (by kernel_rfl) (fun _ _ _ h => h) (Or.inl ⟨by rfl, ?_⟩) (by exact hHeld) ?_
  rotate_left
  · intro w' hSw
    obtain ⟨hx1, hx2, hx3⟩ := hSw
    go_simp
    try (with_reducible rfl)
  try simp only [Act.put, List.setIfInBounds_toArray, List.set_cons_zero, List.set_cons_succ]
  refine wpAnyT_takeD (i := 9) (d := some 25) (v := ?_) hO rfl rfl (by kernel_rfl) (fun _ _ _ h => h) (Or.inl ⟨by rfl, ?_⟩) (by exact hHeld) ?_
  rotate_left
  · intro w' hSw
    obtain ⟨hx1, hx2, hx3⟩ := hSw
    go_simp
    try (with_reducible rfl)
  try simp only [Act.put, List.setIfInBounds_toArray, List.set_cons_zero, List.set_cons_succ]
  refine wpAnyT_takeD (i := 10) (d := some 26) (v := ?_) hO rfl rfl (by kernel_rfl) (fun _ _ _ h => h) (Or.inl ⟨by rfl, ?_⟩) (by exact hHeld) ?_
  rotate_left
  · intro w' hSw
    obtain ⟨hx1, hx2, hx3⟩ := hSw
    go_simp
    try (with_reducible rfl)
  try simp only [Act.put, List.setIfInBounds_toArray, List.set_cons_zero, List.set_cons_succ]
  refine wpAnyT_takeD (i := 11) (d := some 27) (v := ?_) hO rfl rfl (by kernel_rfl) (fun _ _ _ h => h) (Or.inl ⟨by rfl, ?_⟩) (by exact hHeld) ?_
  rotate_left
  · intro w' hSw
    obtain ⟨hx1, hx2, hx3⟩ := hSw
    go_simp
    try (with_reducible rfl)
  try simp only [Act.put, List.setIfInBounds_toArray, List.set_cons_zero, List.set_cons_succ]
  clear hHeld c72 y2 ch2
  refine wpAnyT_one (i := 4) rfl (by kernel_rfl) (by rfl) (fun K hK => ?_)
  go_simp
  have ed : Ext Nope w1 w2.drew := H2.out.drew
  refine (HFI.out _ (ext0 H1.out ed)).mono ?_
  rintro e w3 ⟨u, rfl, o3, e3⟩
  have e13 := ext0 ed e3
  obtain ⟨b3, y3, ch3⟩ := HCE.out w3 e13
  have c73 := (font_cells b3).2.2.2.2.2.2.2.1
  obtain ⟨au, cu, hu, hcu1, hcu2, hgu⟩ := own_gen o3
  obtain ⟨gu, rfl⟩ := hgu HF.out.2.1
  rw [HNF.out] at hu
  subst hu
  have H3 := toHid (show _ ∧ _ from ⟨o3, e13⟩)
  clear o3 e3 e13 b3 ed hgu hcu1
  try go_simp
  refine hK.out _ _ ⟨c73, y3, ch3⟩ (fun _ => ?_)
  clear hK K
  try simp only [Act.put, List.setIfInBounds_toArray, List.set_cons_zero, List.set_cons_succ]
  refine wpAnyT_one (i := 12) rfl (by kernel_rfl) (by rfl) (fun K hK => ?_)
  go_simp
  have hn63 : nf ≤ 9223372036854775807 := by have h1 := HF.out.2.2.1; have h2 := HF.out.2.2.2; have := HNF.out; omega
  have hq := Tryz.slices_Equal_int gu 0 nf cu bf offf nf cf (firstRaw rs) (firstRaw rs) w3 (by rw [HNF.out]; exact Nat.le_refl _) (by rw [HNF.out]; exact Nat.le_refl _) hn63 hn63 (fun j hj => by
      have hx : (firstRaw rs)[j]? = some ((firstRaw rs).getD j 0) := by rw [List.getD_eq_getElem?_getD, List.getElem?_eq_getElem hj]; rfl
      rw [Nat.zero_add]
      refine own_cell (show w3.ownsRow _ 3 1 (.slice (some ⟨gu, 0, none⟩) nf cu) (firstRaw rs).length _ from H3.out.1) ?_
      unfold intCells; rw [List.getElem?_map, hx]; rfl) (fun j hj => by
      have hx : (firstRaw rs)[j]? = some ((firstRaw rs).getD j 0) := by rw [List.getD_eq_getElem?_getD, List.getElem?_eq_getElem hj]; rfl
      exact cell_keep (ext0 H1.out H3.out.2) (HF.out.1 j _ hx))
  rw [show ((firstRaw rs).take nf == (firstRaw rs).take nf) = true by simp] at hq
  refine hq.mono ?_
  clear hq
  rintro e w4 ⟨rfl, q, hw4⟩
  have e4 : Ext Nope w1 w4 := by rw [hw4]; exact H3.out.2.drewN q
  have H4 := toHid e4
  obtain ⟨b4, y4, ch4⟩ := HCE.out w4 e4
  have c74 := (font_cells b4).2.2.2.2.2.2.2.1
  clear hw4 e4 b4 c73 y3 ch3
  try go_simp
  refine hK.out _ _ ⟨c74, y4, ch4⟩ (fun hHeld => ?_)
  clear hK K
  try simp only [Act.put, List.setIfInBounds_toArray, List.set_cons_zero, List.set_cons_succ]
  refine wpAnyT_takeD (i := 13) (d := some 29) (v := ?_) hO rfl rfl (by kernel_rfl) (fun _ _ _ h => h) (Or.inl ⟨by rfl, ?_⟩) (by exact hHeld) ?_
  rotate_left
  · intro w' hSw
    obtain ⟨hx1, hx2, hx3⟩ := hSw
    go_simp
    try (with_reducible rfl)
  try simp only [Act.put, List.setIfInBounds_toArray, List.set_cons_zero, List.set_cons_succ]
  refine wpAnyT_done (by kernel_rfl) ⟨by kernel_rfl, ?_⟩
  simp only [List.drop_succ_cons, List.drop_zero]
  clear hHeld c74 y4 ch4 hO
  go_wp2
  go_ret
  exact ⟨rfl, ext0 H1.out H4.out⟩
end Go.Proofs.YtajebdpalnpjdaaGreatDoor
namespace Go.Proofs.YtajebdpalnpjdaaGreatDoor
open Go.RowKit
attribute [local go_sem] alloc_drewN setCell_drewN

/-- Types of what a rule holds. -/
def Inner (T : Nat) : Prop := T = 24 ∨ T = 3 ∨ T = 184 ∨ T = 81
theorem own_inner {w : World} {base E sz n : Nat} {v : Value} {xs : List Value} (h : w.ownsRow base E sz v n xs) (hE : Inner E) {A : Nat → Prop} (hA : ∀ (b : Nat) (cs : Array Value) (T : Nat) (fz : Nat × Nat), base ≤ b → w.heap[b]? = some (.cells cs T fz) → Inner T → A b) : ∀ g, v.ownBlock = some g → A g := by
  intro g hg
  obtain ⟨_, ⟨rfl, _⟩ | ⟨g1, cap1, cur1, rfl, hb1, hh1, _⟩⟩ := h
  · cases hg
  · have e1 : g1 = g := by simpa [Value.ownBlock] using hg
    subst e1
    exact hA _ _ _ _ hb1 hh1 hE
theorem set7_i64 {s : List Int} (h : Set7 s) : ∀ n ∈ s, i64 n := fun n hn => by have := h.2.2 n hn; unfold i64; omega
theorem OwnSets.rd {A : Nat → Prop} {w : World} {base : Nat} {v : Value} {c : List (List Int)} (h : OwnSets w base v c) (hA : ∀ (b : Nat) (cs : Array Value) (T : Nat) (fz : Nat × Nat), base ≤ b → w.heap[b]? = some (.cells cs T fz) → Inner T → A b) (hi : ∀ s ∈ c, Set7 s) : Rd A w [v] (setsD c) := by
  obtain ⟨vs, h1, h2⟩ := h
  have hl : vs.length = c.length := by rw [h1.1, Nat.mul_one]
  refine Rd.cells_own (us := vs) (xs := c.map intsD) (by rw [hl]; exact h1) (by rw [List.length_map, hl]) (own_inner h1 (Or.inl rfl) hA) fun k x hk => ?_
  rw [List.getElem?_map] at hk
  obtain ⟨s, hs, rfl⟩ := Option.map_eq_some_iff.1 hk
  obtain ⟨u, hu, ho⟩ := h2 k s hs
  exact ⟨u, hu, Rd.ints (show w.ownsRow base 3 1 u s.length _ from ho) (own_inner ho (Or.inr (Or.inl rfl)) hA) (set7_i64 (hi s (List.mem_of_getElem? hs)))⟩
theorem OwnRule.rd {A : Nat → Prop} {w : World} {base : Nat} {vb vi va vo vc : Value} {r : RuleA} (h : OwnRule w base vb vi va vo vc r) (hr : RuleR r) (hA : ∀ (b : Nat) (cs : Array Value) (T : Nat) (fz : Nat × Nat), base ≤ b → w.heap[b]? = some (.cells cs T fz) → Inner T → A b) : Rd A w [vb, vi, va, vo, vc] (ruleD r) := by
  refine Rd.mk1 (h.1.rd hA hr.back) (Rd.mk1 (h.2.1.rd hA hr.in_) (Rd.mk1 (h.2.2.1.rd hA hr.ahead) (Rd.mk1 (Rd.ints (show w.ownsRow base 3 1 vo r.out.length _ from h.2.2.2.1) (own_inner h.2.2.2.1 (Or.inr (Or.inl rfl)) hA) (fun n hn => by have := hr.out n hn; unfold i64; omega)) (Rd.mk1 ?_ Rd.ends))))
  have ho := h.2.2.2.2
  refine Rd.own (xs := r.calls.map pairD) (by unfold OwnT at ho; simpa using ho) (own_inner ho (Or.inr (Or.inr (Or.inl rfl))) hA) fun k x hk => ?_
  rw [List.getElem?_map] at hk
  obtain ⟨p, hp, rfl⟩ := Option.map_eq_some_iff.1 hk
  have hq := hr.calls p (List.mem_of_getElem? hp)
  rw [twoCells_drop, List.drop_eq_getElem_cons (List.getElem?_eq_some_iff.1 hp).1, (List.getElem?_eq_some_iff.1 hp).2]
  show Rd A w [.int .i64 p.1, .int .i64 p.2] _
  exact Rd.mk1 (.int _ (by have := hq.1; unfold i64; omega)) (Rd.mk1 (.int _ (by have := hq.2; unfold i64; omega)) .nil)
/-- A lookup's rules, of one's own. -/
def OwnRules (w : World) (base : Nat) (v : Value) (rs : List RuleA) : Prop := ∃ us : List Value, OwnR w base v rs.length us ∧ ∀ (i : Nat) (r : RuleA), rs[i]? = some r → ∃ vb vi va vo vc, (us.drop (i * 5)).take 5 = [vb, vi, va, vo, vc] ∧ OwnRule w base vb vi va vo vc r
theorem OwnRules.nil (w : World) (base : Nat) : OwnRules w base (.slice none 0 0) [] := ⟨[], ⟨rfl, .inl ⟨rfl, rfl⟩⟩, fun i r h => by simp at h⟩
theorem OwnRules.ext {S : Nat → Prop} {w w' : World} {base : Nat} {v : Value} {rs : List RuleA} (h : OwnRules w base v rs) (e : Ext S w w') (hv : ∀ g, v.ownBlock = some g → ¬ S g) (hS : ∀ (b : Nat) (cs : Array Value) (T : Nat) (fz : Nat × Nat), base ≤ b → w.heap[b]? = some (.cells cs T fz) → T = 24 ∨ T = 3 ∨ T = 184 → ¬ S b) : OwnRules w' base v rs := by
  obtain ⟨us, h1, h2⟩ := h
  refine ⟨us, own_ext h1 e hv, fun i r hr => ?_⟩
  obtain ⟨vb, vi, va, vo, vc, h3, h4⟩ := h2 i r hr
  exact ⟨vb, vi, va, vo, vc, h3, h4.ext e hS⟩
theorem OwnRules.snoc {w : World} {base B : Nat} {v' : Value} {rs : List RuleA} {us : List Value} {r : RuleA} {vb vi va vo vc : Value} (hB : base ≤ B) (hl : us.length = rs.length * 5) (h1 : OwnR w B v' (rs.length + 1) (us ++ [vb, vi, va, vo, vc]))
    (h2 : ∀ (i : Nat) (r : RuleA), rs[i]? = some r → ∃ vb vi va vo vc, (us.drop (i * 5)).take 5 = [vb, vi, va, vo, vc] ∧ OwnRule w base vb vi va vo vc r) (h3 : OwnRule w base vb vi va vo vc r) : OwnRules w base v' (rs ++ [r]) := by
  refine ⟨us ++ [vb, vi, va, vo, vc], ?_, fun i x hx => ?_⟩
  · rw [List.length_append, List.length_singleton]
    exact own_base h1 (fun g hg => Nat.le_trans hB (World.ownsRow.lt h1 g hg).1)
  · by_cases hi : i < rs.length
    · rw [List.getElem?_append_left hi] at hx
      obtain ⟨b, i', a, o, c, h4, h5⟩ := h2 i x hx
      refine ⟨b, i', a, o, c, ?_, h5⟩
      have hle : i * 5 + 5 ≤ us.length := by rw [hl]; omega
      rw [List.drop_append_of_le_length (by omega), List.take_append_of_le_length (by rw [List.length_drop]; omega)]
      exact h4
    · rw [List.getElem?_append_right (by omega)] at hx
      have h0 : i - rs.length = 0 := by
        have := (List.getElem?_eq_some_iff.1 hx).1
        simp at this
        omega
      rw [h0] at hx
      have hx : r = x := by simpa using hx
      subst hx
      have hi' : i = rs.length := by omega
      subst hi'
      refine ⟨vb, vi, va, vo, vc, ?_, h3⟩
      rw [← hl, List.drop_left]
      rfl
theorem OwnRules.rd {A : Nat → Prop} {w : World} {base : Nat} {v : Value} {rs : List RuleA} (h : OwnRules w base v rs) (hr : ∀ r ∈ rs, RuleR r) (hA : ∀ (b : Nat) (cs : Array Value) (T : Nat) (fz : Nat × Nat), base ≤ b → w.heap[b]? = some (.cells cs T fz) → Inner T → A b) : Rd A w [v] (rulesD rs) := by
  obtain ⟨us, h1, h2⟩ := h
  refine Rd.own (xs := rs.map ruleD) (by rw [List.length_map]; exact h1) (own_inner h1 (Or.inr (Or.inr (Or.inr rfl))) hA) fun k x hk => ?_
  rw [List.getElem?_map] at hk
  obtain ⟨r, hrk, rfl⟩ := Option.map_eq_some_iff.1 hk
  obtain ⟨vb, vi, va, vo, vc, h3, h4⟩ := h2 k r hrk
  rw [h3]
  exact h4.rd (hr r (List.mem_of_getElem? hrk)) hA
theorem OwnRules.slice {w : World} {base : Nat} {v : Value} {rs : List RuleA} (h : OwnRules w base v rs) : ∃ a m c, v = .slice a m c := by
  obtain ⟨us, h1, _⟩ := h
  obtain ⟨a, c, hv, _⟩ := own_gen h1
  exact ⟨a, _, c, hv⟩
theorem OwnRules.lt {w : World} {base : Nat} {v : Value} {rs : List RuleA} (h : OwnRules w base v rs) : ∀ g, v.ownBlock = some g → base ≤ g ∧ g < w.heap.size := by
  obtain ⟨us, h1, _⟩ := h
  exact World.ownsRow.lt h1
/-- The lookups that are read: all but the last lie below B. -/
structure LK (W : World) (base B : Nat) (ls : List Value) (rss : List (List RuleA)) : Prop where
  len : ls.length = rss.length
  each : ∀ (i : Nat) (v : Value) (rs : List RuleA), ls[i]? = some v → rss[i]? = some rs → OwnRules W base v rs
  old : ∀ (i : Nat) (v : Value) (g : Nat), i + 1 < ls.length → ls[i]? = some v → v.ownBlock = some g → g < B
  new : ∀ (i : Nat) (v : Value) (g : Nat), i + 1 = ls.length → ls[i]? = some v → v.ownBlock = some g → B ≤ g
def cells_L (vh vL vg : Value) (k : ByteArray) : List Value := [.string n_a, .int .i64 1, .slice none 0 0, .slice none 0 0, .int .i64 0, .slice none 0 0, .slice none 0 0, vh, .string ⟨#[]⟩, vL, vg, .string k]
def LSt (w W : World) (k : ByteArray) (fs : List Int) (rss : List (List RuleA)) (gs : List Int) : Prop := ∃ (u vh vL vg : Value) (ls : List Value) (B : Nat), RB W (w.heap.size + 1) (cells_L vh vL vg k) u ∧ OwnH W (w.heap.size + 2) vh (fs.map fun n => (n, Value.slice none 0 0)) ∧
  OwnL W (w.heap.size + 2) vL ls ∧ OwnG W (w.heap.size + 2) vg (gs.map fun n => (Value.slice none 0 0, n, Value.slice none 0 0)) ∧ w.heap.size + 2 ≤ B ∧ B ≤ W.heap.size ∧ LK W (w.heap.size + 2) B ls rss
theorem LK.ext {S : Nat → Prop} {W W' : World} {base B : Nat} {ls : List Value} {rss : List (List RuleA)} (h : LK W base B ls rss) (e : Ext S W W') (hv : ∀ (i : Nat) (v : Value) (rs : List RuleA) (g : Nat), ls[i]? = some v → rss[i]? = some rs → v.ownBlock = some g → ¬ S g) (hS : ∀ (b : Nat) (cs : Array Value) (T : Nat) (fz : Nat × Nat), base ≤ b → W.heap[b]? = some (.cells cs T fz) → T = 24 ∨ T = 3 ∨ T = 184 → ¬ S b) : LK W' base B ls rss :=
  ⟨h.len, fun i v rs h1 h2 => (h.each i v rs h1 h2).ext e (fun g hg => hv i v rs g h1 h2 hg) hS, h.old, h.new⟩
theorem LSt.ext0 {w W W' : World} {k : ByteArray} {fs : List Int} {rss : List (List RuleA)} {gs : List Int} (h : LSt w W k fs rss gs) (e : Ext Nope W W') : LSt w W' k fs rss gs := by
  obtain ⟨u, vh, vL, vg, ls, B, h1, h2, h3, h4, h5, h6, h7⟩ := h
  exact ⟨u, vh, vL, vg, ls, B, h1.ext e (fun z => z), own_ext h2 e (fun _ _ z => z), own_ext h3 e (fun _ _ z => z), own_ext h4 e (fun _ _ z => z), h5, Nat.le_trans h6 e.size, h7.ext e (fun _ _ _ _ _ _ _ z => z) (fun _ _ _ _ _ _ _ z => z)⟩
theorem OwnRules.ne {w : World} {base b2 E sz n : Nat} {v v2 : Value} {rs : List RuleA} {xs : List Value} (h : OwnRules w base v rs) (h2 : w.ownsRow b2 E sz v2 n xs) (hE : E ≠ 81) : ∀ g, v.ownBlock = some g → ¬ v2.ownBlock = some g := by
  obtain ⟨us, h1, _⟩ := h
  exact own_apart h1 h2 (fun z => hE z.symm)
theorem typed_ne {w : World} {base E sz n : Nat} {v : Value} {xs : List Value} (h : w.ownsRow base E sz v n xs) (hE : E ≠ 24 ∧ E ≠ 3 ∧ E ≠ 184) {b : Nat} {cs : Array Value} {T : Nat} {fz : Nat × Nat} (hb : w.heap[b]? = some (.cells cs T fz)) (hT : T = 24 ∨ T = 3 ∨ T = 184) : ¬ v.ownBlock = some b :=
  own_typed h hb (fun z => by rcases hT with h | h | h <;> (rw [h] at z; first | exact hE.1 z.symm | exact hE.2.1 z.symm | exact hE.2.2 z.symm))
set_option maxHeartbeats 1000000 in
/-- A line 'lookup N' -/
theorem step_lk {w W : World} (G : Glob W) (h64 : 11 ≤ w.heap.size) {k : ByteArray} {fs : List Int} {rss : List (List RuleA)} {gs : List Int} (h : LSt w W k fs rss gs) (hin : Lib.containsS ((kinds.drop 0).take 5) k = true) (hf : fs.length ≤ 100) (hrs : rss.length ≤ 100) {n : Int} (h1 : -9999999 ≤ n) (h2 : n ≤ 9999999) :
    Calls Tryz.prog 11 #[ptr (w.heap.size + 1), .string (joinB 32 [k_lookup, num n])] W fun e w' => e = .returned (.bool true) ∧ LSt w w' k_lookup (fs ++ [n]) (rss ++ [[]]) gs ∧ Ext (fun b => w.heap.size < b) W w' := by
  obtain ⟨u, vh, vL, vg, ls, B, q1, q2, q3, q4, q5, q6, q7⟩ := h
  refine (line_lookup G (base := w.heap.size + 2) (by omega) (by omega) (by omega) q1 (before := k) rfl hin h1 h2 (vh := vh) (vL := vL) rfl rfl q2 q3 (by rw [List.length_map]; omega) (by have := q7.len; omega)).mono ?_
  rintro e w' ⟨rfl, ⟨vh', vL', u', r1, r2, r3⟩, e'⟩
  have hh := World.ownsRow.lt q2
  have hl := World.ownsRow.lt q3
  refine ⟨rfl, ⟨u', vh', vL', vg, ls ++ [.slice none 0 0], W.heap.size, r1, ?_, r3, own_ext q4 e' (fun g hg z => ?_), by omega, e'.size, ?_⟩, e'.mono (fun b z => ?_)⟩
  · rw [List.map_append, List.map_cons, List.map_nil]
    exact r2
  · rcases z with z | z | z
    · have := (World.ownsRow.lt q4 g hg).1; omega
    · exact own_apart q4 q2 (by decide) g hg z
    · exact own_apart q4 q3 (by decide) g hg z
  · refine ⟨by rw [List.length_append, List.length_append, q7.len]; rfl, fun i v rs hv hr => ?_, fun i v g hi hv hg => ?_, fun i v g hi hv hg => ?_⟩
    · by_cases hil : i < ls.length
      · rw [List.getElem?_append_left hil] at hv
        rw [List.getElem?_append_left (by rw [← q7.len]; exact hil)] at hr
        have ho := q7.each i v rs hv hr
        refine ho.ext e' (fun g hg z => ?_) (fun b cs T fz hb hbb hT z => ?_)
        · rcases z with z | z | z
          · have := (ho.lt g hg).1; omega
          · exact ho.ne q2 (by decide) g hg z
          · exact ho.ne q3 (by decide) g hg z
        · rcases z with z | z | z
          · omega
          · exact typed_ne q2 (by decide) hbb hT z
          · exact typed_ne q3 (by decide) hbb hT z
      · rw [List.getElem?_append_right (by omega)] at hv
        rw [List.getElem?_append_right (by rw [← q7.len]; omega)] at hr
        have h0 : i - ls.length = 0 := by
          have := (List.getElem?_eq_some_iff.1 hv).1
          simp at this
          omega
        rw [h0] at hv
        rw [← q7.len, h0] at hr
        have hv : Value.slice none 0 0 = v := by simpa using hv
        have hr : [] = rs := by simpa using hr
        rw [← hv, ← hr]
        exact OwnRules.nil _ _
    · rw [List.length_append, List.length_singleton] at hi
      rw [List.getElem?_append_left (by omega)] at hv
      obtain ⟨rs, hr⟩ : ∃ rs, rss[i]? = some rs := ⟨_, List.getElem?_eq_getElem (by rw [← q7.len]; omega)⟩
      exact ((q7.each i v rs hv hr).lt g hg).2
    · rw [List.length_append, List.length_singleton] at hi
      rw [List.getElem?_append_right (by omega)] at hv
      have h0 : i - ls.length = 0 := by omega
      rw [h0] at hv
      have hv : Value.slice none 0 0 = v := by simpa using hv
      rw [← hv] at hg
      cases hg
  · rcases z with z | z | z
    · omega
    · have := (hh b z).1; omega
    · have := (hl b z).1; omega
set_option maxHeartbeats 1000000 in
/-- A line of a rule -/
theorem step_rl {w W : World} (G : Glob W) (h64 : 11 ≤ w.heap.size) {k : ByteArray} {fs : List Int} {rss : List (List RuleA)} {rs : List RuleA} {gs : List Int} (h : LSt w W k fs (rss ++ [rs]) gs) (hin : Lib.containsS ((kinds.drop 3).take 2) k = true) (hrs : rss.length ≤ 100) (hr5 : rs.length ≤ 100) {r : RuleA} (hrr : RuleR r) (hs : (joinB 32 (k_rule :: ruleW r)).size ≤ 100000) :
    Calls Tryz.prog 11 #[ptr (w.heap.size + 1), .string (joinB 32 (k_rule :: ruleW r))] W fun e w' => e = .returned (.bool true) ∧ LSt w w' k_rule fs (rss ++ [rs ++ [r]]) gs ∧ Ext (fun b => w.heap.size < b) W w' := by
  obtain ⟨u, vh, vL, vg, ls, B, q1, q2, q3, q4, q5, q6, q7⟩ := h
  have hll : ls.length = rss.length + 1 := by rw [q7.len, List.length_append]; rfl
  obtain ⟨l0, vl, rfl⟩ : ∃ l0 vl, ls = l0 ++ [vl] := by
    rcases List.eq_nil_or_concat ls with h | ⟨l0, vl, h⟩
    · rw [h] at hll; simp at hll
    · exact ⟨l0, vl, by rw [h]; simp⟩
  have hl0 : l0.length = rss.length := by rw [List.length_append, List.length_singleton] at hll; omega
  have hvl : (l0 ++ [vl])[l0.length]? = some vl := by rw [List.getElem?_append_right (Nat.le_refl _), Nat.sub_self]; rfl
  have hrl : (rss ++ [rs])[l0.length]? = some rs := by rw [List.getElem?_append_right (by omega), hl0, Nat.sub_self]; rfl
  obtain ⟨us, o1, o2⟩ := q7.each l0.length vl rs hvl hrl
  have oB : OwnR W B vl rs.length us := own_base o1 (fun g hg => q7.new l0.length vl g (by simp) hvl hg)
  refine (line_rule G (Nat.le_trans h64 (by omega)) (base := w.heap.size + 2) (base2 := B) (by omega) (by omega) q5 q6 q1 (before := k) rfl hin hrr hs (vL := vL) (vr := vl) rfl q3 (by omega) oB (by omega)).mono ?_
  rintro e w' ⟨rfl, ⟨vr', vb, vi, va, vo, vc, u', r1, r2, r3, r4⟩, e'⟩
  have hL := World.ownsRow.lt q3
  have hR := World.ownsRow.lt oB
  have hnS : ∀ (b : Nat) (cs : Array Value) (T : Nat) (fz : Nat × Nat), w.heap.size + 2 ≤ b → W.heap[b]? = some (.cells cs T fz) → T = 24 ∨ T = 3 ∨ T = 184 → ¬ (b = w.heap.size + 1 ∨ vL.ownBlock = some b ∨ vl.ownBlock = some b) := fun b cs T fz hb hbb hT z => by
    rcases z with z | z | z
    · omega
    · exact typed_ne q3 (by decide) hbb hT z
    · exact typed_ne oB (by decide) hbb hT z
  refine ⟨rfl, ⟨u', vh, vL, vg, l0 ++ [vr'], B, r1, own_ext q2 e' (fun g hg z => ?_), r2, own_ext q4 e' (fun g hg z => ?_), q5, Nat.le_trans q6 e'.size, ?_⟩, e'.mono (fun b z => ?_)⟩
  · rcases z with z | z | z
    · have := (World.ownsRow.lt q2 g hg).1; omega
    · exact own_apart q2 q3 (by decide) g hg z
    · exact own_apart q2 oB (by decide) g hg z
  · rcases z with z | z | z
    · have := (World.ownsRow.lt q4 g hg).1; omega
    · exact own_apart q4 q3 (by decide) g hg z
    · exact own_apart q4 oB (by decide) g hg z
  · refine ⟨by rw [List.length_append, List.length_append, hl0]; rfl, fun i v rs' hv hr => ?_, fun i v g hi hv hg => ?_, fun i v g hi hv hg => ?_⟩
    · by_cases hil : i < l0.length
      · rw [List.getElem?_append_left hil] at hv
        rw [List.getElem?_append_left (by omega)] at hr
        have hv' : (l0 ++ [vl])[i]? = some v := by rw [List.getElem?_append_left hil]; exact hv
        have ho := q7.each i v rs' hv' (by rw [List.getElem?_append_left (by omega)]; exact hr)
        refine ho.ext e' (fun g hg z => ?_) hnS
        rcases z with z | z | z
        · have := (ho.lt g hg).1; omega
        · exact ho.ne q3 (by decide) g hg z
        · have h1 := q7.old i v g (by rw [List.length_append, List.length_singleton]; omega) hv' hg
          have h2 := q7.new l0.length vl g (by simp) hvl z
          omega
      · rw [List.getElem?_append_right (by omega)] at hv
        rw [List.getElem?_append_right (by omega)] at hr
        have h0 : i - l0.length = 0 := by
          have := (List.getElem?_eq_some_iff.1 hv).1
          simp at this
          omega
        rw [h0] at hv
        rw [← hl0, h0] at hr
        have hv : vr' = v := by simpa using hv
        have hr : rs ++ [r] = rs' := by simpa using hr
        rw [← hv, ← hr]
        refine OwnRules.snoc q5 o1.1 r3 (fun j x hx => ?_) (r4.mono (by omega))
        obtain ⟨b, i', a, o, c, h4, h5⟩ := o2 j x hx
        exact ⟨b, i', a, o, c, h4, h5.ext e' hnS⟩
    · rw [List.length_append, List.length_singleton] at hi
      rw [List.getElem?_append_left (by omega)] at hv
      exact q7.old i v g (by rw [List.length_append, List.length_singleton]; omega) (by rw [List.getElem?_append_left (by omega)]; exact hv) hg
    · rw [List.length_append, List.length_singleton] at hi
      rw [List.getElem?_append_right (by omega)] at hv
      have h0 : i - l0.length = 0 := by omega
      rw [h0] at hv
      have hv : vr' = v := by simpa using hv
      rw [← hv] at hg
      exact (World.ownsRow.lt r3 g hg).1
  · rcases z with z | z | z
    · omega
    · have := (hL b z).1; omega
    · have := (hR b z).1; omega
set_option maxHeartbeats 1000000 in
/-- A line 'glyph N' -/
theorem step_gl {w W : World} (G : Glob W) (h64 : 11 ≤ w.heap.size) {k : ByteArray} {fs : List Int} {rss : List (List RuleA)} {gs : List Int} (h : LSt w W k fs rss gs) (hin : Lib.containsS beforeGlyph k = true) (hg : gs.length ≤ 100) {n : Int} (h1 : -9999999 ≤ n) (h2 : n ≤ 9999999) :
    Calls Tryz.prog 11 #[ptr (w.heap.size + 1), .string (joinB 32 [k_glyph, num n])] W fun e w' => e = .returned (.bool true) ∧ LSt w w' k_glyph fs rss (gs ++ [n]) ∧ Ext (fun b => w.heap.size < b) W w' := by
  obtain ⟨u, vh, vL, vg, ls, B, q1, q2, q3, q4, q5, q6, q7⟩ := h
  refine (line_glyph G (base := w.heap.size + 2) (by omega) (by omega) (by omega) q1 (before := k) rfl hin h1 h2 (vg := vg) rfl q4 (by rw [List.length_map]; omega)).mono ?_
  rintro e w' ⟨rfl, ⟨vg', u', r1, r2⟩, e'⟩
  have hG := World.ownsRow.lt q4
  refine ⟨rfl, ⟨u', vh, vL, vg', ls, B, r1, own_ext q2 e' (fun g hg z => ?_), own_ext q3 e' (fun g hg z => ?_), ?_, q5, Nat.le_trans q6 e'.size, q7.ext e' (fun i v rs g hv hr hg z => ?_) (fun b cs T fz hb hbb hT z => ?_)⟩, e'.mono (fun b z => ?_)⟩
  · rcases z with z | z
    · have := (World.ownsRow.lt q2 g hg).1; omega
    · exact own_apart q2 q4 (by decide) g hg z
  · rcases z with z | z
    · have := (World.ownsRow.lt q3 g hg).1; omega
    · exact own_apart q3 q4 (by decide) g hg z
  · rw [List.map_append, List.map_cons, List.map_nil]
    exact r2
  · have ho := q7.each i v rs hv hr
    rcases z with z | z
    · have := (ho.lt g hg).1; omega
    · exact ho.ne q4 (by decide) g hg z
  · rcases z with z | z
    · omega
    · exact typed_ne q4 (by decide) hbb hT z
  · rcases z with z | z
    · omega
    · have := (hG b z).1; omega
end Go.Proofs.YtajebdpalnpjdaaGreatDoor
namespace Go.Proofs.YtajebdpalnpjdaaGreatDoor
open Go.RowKit
attribute [local go_sem] alloc_drewN setCell_drewN

abbrev t_2 : ByteArray := ⟨#[102, 111, 110, 116, 32, 97, 32, 49, 59, 108, 111, 111, 107, 117, 112, 32, 53, 59, 114, 117, 108, 101, 32, 124, 32, 123, 48, 125, 32, 123, 48, 44, 49, 125, 32, 124, 32, 123, 49, 125, 32, 62, 32, 49, 59, 114, 117, 108, 101, 32, 124, 32, 123, 49, 125, 32, 124, 32, 99, 97, 108, 108, 32, 48, 58, 49, 59, 108, 111, 111, 107, 117, 112, 32, 57, 59, 114, 117, 108, 101, 32, 124, 32, 123, 49, 125, 32, 124, 32, 62, 32, 48, 32, 48, 59, 103, 108, 121, 112, 104, 32, 49, 59, 103, 108, 121, 112, 104, 32, 50, 59]⟩
theorem num_2 : (num 2).data.toList = [50] := by rw [num_list, Lib.itoa, if_neg (by decide), Lib.decDigits, dif_pos (by decide)]; rfl
theorem num_9 : (num 9).data.toList = [57] := by rw [num_list, Lib.itoa, if_neg (by decide), Lib.decDigits, dif_pos (by decide)]; rfl
def r_1 : RuleA := ⟨[], [[0], [0, 1]], [[1]], [1], []⟩
def r_2 : RuleA := ⟨[], [[1]], [], [], [(0, 1)]⟩
def r_3 : RuleA := ⟨[], [[1]], [], [0, 0], []⟩
def heads_2 : List HeadA := [⟨5, [0, 1]⟩, ⟨9, [1]⟩]
def looks_2 : List LookupA := [[r_1, r_2], [r_3]]
def glyphs_2 : List GlyphA := [⟨[], [], ⟨0, 0, 0⟩, 1, [], []⟩, ⟨[], [], ⟨0, 0, 0⟩, 2, [], []⟩]
def f_2 : FontA := ⟨⟨n_a, 1, [], [], 2, [], [], heads_2, ⟨#[]⟩⟩, looks_2, glyphs_2⟩
abbrev lines_2 : List ByteArray := [joinB 32 [k_font, n_a, num 1], joinB 32 [k_lookup, num 5], joinB 32 (k_rule :: ruleW r_1), joinB 32 (k_rule :: ruleW r_2), joinB 32 [k_lookup, num 9], joinB 32 (k_rule :: ruleW r_3), joinB 32 [k_glyph, num 1], joinB 32 [k_glyph, num 2]]
theorem line_r1 : (joinB 32 (k_rule :: ruleW r_1)).data.toList = [114, 117, 108, 101, 32, 124, 32, 123, 48, 125, 32, 123, 48, 44, 49, 125, 32, 124, 32, 123, 49, 125, 32, 62, 32, 49] := by
  rw [joinB_list]
  simp [ruleW, r_1, endsS, joinC, setS_list, joinB_list, num_0, num_1]
theorem line_r2 : (joinB 32 (k_rule :: ruleW r_2)).data.toList = [114, 117, 108, 101, 32, 124, 32, 123, 49, 125, 32, 124, 32, 99, 97, 108, 108, 32, 48, 58, 49] := by
  rw [joinB_list]
  simp [ruleW, r_2, endsS, joinC, setS_list, callS, joinB_list, num_0, num_1]
theorem line_r3 : (joinB 32 (k_rule :: ruleW r_3)).data.toList = [114, 117, 108, 101, 32, 124, 32, 123, 49, 125, 32, 124, 32, 62, 32, 48, 32, 48] := by
  rw [joinB_list]
  simp [ruleW, r_3, endsS, joinC, setS_list, joinB_list, num_0, num_1]
theorem text_2 : semi t_2 = textB lines_2 ⟨#[]⟩ := by
  apply bytes_ext
  simp [semi, semi1, textB, linesC, line_r1, line_r2, line_r3]
  simp [joinB_list, joinC, num_1, num_2, num_5, num_9]
theorem set7_0 : Set7 [0] := ⟨by decide, by decide, by intro n hn; simp at hn; omega⟩
theorem set7_1 : Set7 [1] := ⟨by decide, by decide, by intro n hn; simp at hn; omega⟩
theorem set7_01 : Set7 [0, 1] := ⟨by decide, by decide, by intro n hn; simp at hn; omega⟩
theorem ruleR_1 : RuleR r_1 where
  back := by simp [r_1]
  in_ := by simp [r_1]; exact ⟨set7_0, set7_01⟩
  ahead := by simp [r_1]; exact set7_1
  out := by simp [r_1]
  calls := by simp [r_1]
  few := by decide
  one := Or.inl rfl
theorem ruleR_2 : RuleR r_2 where
  back := by simp [r_2]
  in_ := by simp [r_2]; exact set7_1
  ahead := by simp [r_2]
  out := by simp [r_2]
  calls := by simp [r_2, Pair7]
  few := by decide
  one := Or.inr rfl
theorem ruleR_3 : RuleR r_3 where
  back := by simp [r_3]
  in_ := by simp [r_3]; exact set7_1
  ahead := by simp [r_3]
  out := by simp [r_3]
  calls := by simp [r_3]
  few := by decide
  one := Or.inl rfl
theorem rulesR_2 : ∀ l ∈ looks_2, ∀ r ∈ l, RuleR r := by
  intro l hl r hr
  simp only [looks_2, List.mem_cons, List.not_mem_nil, or_false] at hl
  rcases hl with rfl | rfl
  · simp only [List.mem_cons, List.not_mem_nil, or_false] at hr
    rcases hr with rfl | rfl
    · exact ruleR_1
    · exact ruleR_2
  · simp only [List.mem_cons, List.not_mem_nil, or_false] at hr
    subst hr
    exact ruleR_3
theorem setG_0 : SetG 2 [0] := ⟨by simp [Incr], by decide, by decide, by intro n hn; simp at hn; omega⟩
theorem setG_1 : SetG 2 [1] := ⟨by simp [Incr], by decide, by decide, by intro n hn; simp at hn; omega⟩
theorem setG_01 : SetG 2 [0, 1] := ⟨by simp [Incr], by decide, by decide, by intro n hn; simp at hn; omega⟩
theorem ruleC_1 : RuleC r_1 0 2 2 where
  in0 := by decide
  in4 := by decide
  back := by decide
  ahead := by decide
  out := by decide
  calls := by decide
  one := Or.inr rfl
  sets := by simp [ctx, r_1]; exact ⟨setG_0, setG_01, setG_1⟩
  outs := by simp [r_1]
  callsOK := by simp [r_1]
theorem ruleC_2 : RuleC r_2 0 2 2 where
  in0 := by decide
  in4 := by decide
  back := by decide
  ahead := by decide
  out := by decide
  calls := by decide
  one := Or.inl rfl
  sets := by simp [ctx, r_2]; exact setG_1
  outs := by simp [r_2]
  callsOK := by simp [r_2]
theorem ruleC_3 : RuleC r_3 1 2 2 where
  in0 := by decide
  in4 := by decide
  back := by decide
  ahead := by decide
  out := by decide
  calls := by decide
  one := Or.inr rfl
  sets := by simp [ctx, r_3]; exact setG_1
  outs := by simp [r_3]
  callsOK := by simp [r_3]
theorem incr_01 : Incr [0, 1] := setG_01.1
theorem incr_1 : Incr [1] := setG_1.1
theorem first_0 : firstRaw [r_1, r_2] = [0, 1] := rfl
theorem first_1 : firstRaw [r_3] = [1] := rfl
theorem in_12 : ∀ r ∈ [r_1, r_2], ∃ s t, r.in_ = s :: t ∧ 0 < s.length ∧ s.length ≤ 1000 := by
  intro r hr
  simp only [List.mem_cons, List.not_mem_nil, or_false] at hr
  rcases hr with rfl | rfl
  · exact ⟨[0], [[0, 1]], rfl, by decide, by decide⟩
  · exact ⟨[1], [], rfl, by decide, by decide⟩
theorem in_3 : ∀ r ∈ [r_3], ∃ s t, r.in_ = s :: t ∧ 0 < s.length ∧ s.length ≤ 1000 := by
  intro r hr
  simp only [List.mem_cons, List.not_mem_nil, or_false] at hr
  subst hr
  exact ⟨[1], [], rfl, by decide, by decide⟩
set_option maxHeartbeats 1000000 in
/-- font.Check of the second text's font -/
theorem check_2 {w : World} {ah al ag : Option Addr} {ch cl cg : Nat} (hH : Rd (fun _ => True) w [.slice ah 2 ch] (.l 2 (heads_2.map headD))) (hL : Rd (fun _ => True) w [.slice al 2 cl] (.l 1 (looks_2.map lookupD))) (hG : Rd (fun _ => True) w [.slice ag 2 cg] (.l 8 (glyphs_2.map glyphD))) :
    Calls Tryz.prog 13 #[.agg (TV.cells ⟨⟨1, 2, none, 0, 0, ah, 2, ch⟩, al, 2, cl, ag, 2, cg⟩)] w fun e w' => e = .returned (.int .i64 0) ∧ Ext Nope w w' := by
  have hok : FontOK (fun _ => True) w ⟨⟨1, 2, none, 0, 0, ah, 2, ch⟩, al, 2, cl, ag, 2, cg⟩ [] (heads_2.map headD) (fun _ => 0) (fun _ => 0) (looks_2.map lookupD) (glyphs_2.map glyphD) (fun _ => 0) (fun k => match glyphs_2[k]? with | some g => glyphE g 0 | none => 0) := by
    refine ⟨⟨Rd.empty _, hH, fun _ _ _ _ => Checks.none, fun W bb e hz => ?_⟩, hL, hG, fun W bb e hz => ?_, fun W bb e hz => ?_⟩
    · intro k W' u hk e' hu
      obtain ⟨x, cs, rfl, hx, hr⟩ := hu
      have hz' := (e'.block _ (lt_of_heap hz) (fun z => z)).trans hz
      match k, hk, hx with
      | 0, _, hx =>
        cases hx
        exact head_closure (f := ⟨1, 2, none, 0, 0, ah, 2, ch⟩) (hd := ⟨5, [0, 1]⟩) hz' (by show (1 : Int) ≤ 2 ∧ (2 : Int) ≤ 100; omega) hr (by show (0 : Int) ≤ 5 ∧ (5 : Int) ≤ 9; omega) incr_01 (by decide) (by intro g hg; simp at hg; show 0 ≤ g ∧ g ≤ 2 - 1; omega) 0
      | 1, _, hx =>
        cases hx
        exact head_closure (f := ⟨1, 2, none, 0, 0, ah, 2, ch⟩) (hd := ⟨9, [1]⟩) hz' (by show (1 : Int) ≤ 2 ∧ (2 : Int) ≤ 100; omega) hr (by show (0 : Int) ≤ 9 ∧ (9 : Int) ≤ 9; omega) incr_1 (by decide) (by intro g hg; simp at hg; show 0 ≤ g ∧ g ≤ 2 - 1; omega) 1
      | k + 2, hk, _ => exact absurd hk (by simp [heads_2])
    · intro k W' u hk e' hu
      obtain ⟨x, cs, rfl, hx, hr⟩ := hu
      have hz' := (e'.block _ (lt_of_heap hz) (fun z => z)).trans hz
      have hH' : Rd (fun _ => True) W' [.slice ah 2 ch] (.l 2 (heads_2.map headD)) := (hH.ext0 e).ext0 e'
      match k, hk, hx with
      | 0, _, hx =>
        cases hx
        refine look_closure (t := ⟨⟨1, 2, none, 0, 0, ah, 2, ch⟩, al, 2, cl, ag, 2, cg⟩) (rs := [r_1, r_2]) (k := 0) hz' hr (fun r hr' => ?_) (by decide) (by show 0 < 2 ∧ 2 ≤ 12; omega) (by show (1 : Int) ≤ 2 ∧ (2 : Int) ≤ 100; omega) in_12 (by rw [first_0]; exact incr_01) (by decide) (hs := heads_2) (hd := ⟨5, [0, 1]⟩) hH' rfl rfl
        simp only [List.mem_cons, List.not_mem_nil, or_false] at hr'
        rcases hr' with rfl | rfl
        · exact ruleC_1
        · exact ruleC_2
      | 1, _, hx =>
        cases hx
        refine look_closure (t := ⟨⟨1, 2, none, 0, 0, ah, 2, ch⟩, al, 2, cl, ag, 2, cg⟩) (rs := [r_3]) (k := 1) hz' hr (fun r hr' => ?_) (by decide) (by show 1 < 2 ∧ 2 ≤ 12; omega) (by show (1 : Int) ≤ 2 ∧ (2 : Int) ≤ 100; omega) in_3 (by rw [first_1]; exact incr_1) (by decide) (hs := heads_2) (hd := ⟨9, [1]⟩) hH' rfl rfl
        simp only [List.mem_cons, List.not_mem_nil, or_false] at hr'
        subst hr'
        exact ruleC_3
      | k + 2, hk, _ => exact absurd hk (by simp [looks_2])
    · refine glyphs_checks (gs := glyphs_2) (pe := fun _ => 0) (fun k g' hk => ?_) hz
      match k, hk with
      | 0, hk =>
        cases hk
        exact ⟨⟨rfl, rfl, rfl⟩, by decide, by decide, .inl ⟨rfl, rfl⟩⟩
      | 1, hk =>
        cases hk
        exact ⟨⟨rfl, rfl, rfl⟩, by decide, by decide, .inl ⟨rfl, rfl⟩⟩
      | k + 2, hk => exact absurd hk (by simp [glyphs_2])
  have hge : ∀ g ∈ glyphs_2, glyphE g 0 = 0 := by decide
  refine (font_check hok).mono ?_
  rintro e w' ⟨rfl, e1⟩
  refine ⟨congrArg (fun z => Ending.returned (Value.int .i64 z)) ?_, e1⟩
  simp [fontErr, coreErr, headErr, firstE, glyphs_2, looks_2, heads_2]
  decide
end Go.Proofs.YtajebdpalnpjdaaGreatDoor
