/-
  The ranged machine: what is pushed and set.
  The ranged machine runs the one program.
  slices.Repeat; ranges of nothing.
-/
import Derived.Test.YtajebdpalnpjdaaGreatDoorM19
import Derived.StillTailTactics
import Derived.Test.YtajebdpalnpjdaaGreatDoorSh
import Derived.Laws.CopyOwn
namespace Go.Proofs.YtajebdpalnpjdaaGreatDoor
open Go.RowKit
attribute [local go_sem] alloc_drewN setCell_drewN

theorem span_own {w : World} {sb : Nat} {a b : Int} (h : w.heap[sb]? = some (.cells #[.int .i64 a, .int .i64 b] 262 (0, 0))) : OwnSp w 0 (.slice (some ⟨sb, 0, none⟩) 1 1) a b := ⟨rfl, .inr ⟨sb, 1, _, rfl, Nat.zero_le _, h, Nat.le_refl _, by unfold maxLen; omega, rfl, rfl⟩⟩
theorem span_rd {w : World} {sb : Nat} {a b : Int} (h : w.heap[sb]? = some (.cells #[.int .i64 a, .int .i64 b] 262 (0, 0))) (ha : i64 a) (hb : i64 b) : Rd (fun _ => True) w [.slice (some ⟨sb, 0, none⟩) 1 1] (.l 2 [pairD (a, b)]) :=
  Rd.own (xs := [pairD (a, b)]) (span_own h) (fun _ _ => trivial) fun k x hk => by
    match k, hk with
    | 0, hk =>
      cases hk
      exact Rd.mk1 (.int _ ha) (Rd.mk1 (.int _ hb) .nil)
set_option maxRecDepth 100000 in
set_option maxHeartbeats 2000000 in
/-- machine.push of one span on nothing -/
theorem push_first {w : World} {mb sb : Nat} {p pts : Value} {stp a b : Int} (h : MB w mb p (.slice none 0 0) pts 0 stp) (hs : w.heap[sb]? = some (.cells #[.int .i64 a, .int .i64 b] 262 (0, 0))) (ha : -1048576 ≤ a) (ha2 : a ≤ 1048576) (hb : -1048576 ≤ b) (hb2 : b ≤ 1048576) :
    Calls Tryz.prog 238 #[ptr mb, .slice (some ⟨sb, 0, none⟩) 1 1] w fun e w' => e = .returned (.int .i64 0) ∧ (∃ g cap, 1 ≤ cap ∧ MB w' mb p (.slice (some ⟨g, 0, none⟩) 1 cap) pts 1 stp ∧ OwnSp w' w.heap.size (.slice (some ⟨g, 0, none⟩) 1 cap) a b) ∧ Ext (fun b => b = mb) w w' := by
  have HH := toHid (has_spans (p := fun _ => false) ent_push (span_rd hs (by unfold i64; omega) (by unfold i64; omega)) (caps := #[]) (fun k W u hk hE hu => by
    obtain ⟨x, cs, rfl, hx, hr⟩ := hu
    have hk0 : k = 0 := Nat.lt_one_iff.1 hk
    subst hk0
    have hx : pairD (a, b) = x := by simpa using hx
    subst hx
    obtain ⟨c2, rfl, _, hr2⟩ := (show Rd _ W cs (.r [.i a, .i b]) from hr).ri
    obtain ⟨c3, rfl, _, hr3⟩ := hr2.ri
    obtain rfl := hr3.r_nil
    exact push_clo a b ha hb2 W))
  obtain ⟨i0, hi, hz0, hz1, hz2⟩ := info_parts infoSpan
  have HI := toHid (show _ ∧ _ ∧ _ ∧ _ from ⟨hi, hz0, hz1, hz2⟩)
  have HM := toHid (show _ ∧ _ from ⟨h, hs⟩)
  have hlt := h.lt
  have hA : anyN (fun _ => false) 1 = false := rfl
  clear h hs hi hz0 hz1 hz2
  go_enter Tryz.func238, Tryz.ntmps238
  go_wp2_with fail
  refine HH.out.mono ?_
  rintro e w2 ⟨rfl, e2⟩
  rw [show anyN (fun _ => false) [pairD (a, b)].length = false from rfl]
  have hm2 := HM.out.1.ext e2 (fun z => z)
  have hs2 := (e2.block _ (lt_of_heap HM.out.2) (fun z => z)).trans HM.out.2
  obtain ⟨c0, c4, c21, c22, c23⟩ := hm2.at
  have H2 := toHid (show _ ∧ _ ∧ _ from ⟨hm2, hs2, e2⟩)
  have hown : w2.ownsRow w.heap.size 262 2 (.slice none 0 0) 0 [] := ⟨rfl, .inl ⟨rfl, rfl⟩⟩
  have HOw := toHid hown
  have hcells := toHid (own_cells (span_own hs2))
  clear e2 HH hm2 hs2 hown
  obtain ⟨hi, hz0, hz1, hz2⟩ := HI.out
  go_wp2_with (first | (at_builtin; refine wpList_append_own _ rfl (.tmp 11) (.tmp 12) 263 rfl w.heap.size 262 i0 _ 2 16 Tryz.underlying263 hi hz0 hz1 hz2 rfl (by decide) _ _ _ rfl HOw.out ⟨sb, 0, none⟩ 1 1 [.int .i64 a, .int .i64 b] rfl rfl hcells.out (fun u hu => by simp at hu; rcases hu with rfl | rfl <;> rfl) (by unfold maxLen; omega) (by omega) H2.out.2.2.size ?_))
  intro v' w' hown' hgrow _
  obtain ⟨av, cap, hv', hcap, _, hgg⟩ := own_gen hown'
  obtain ⟨g, hg⟩ := hgg (by omega)
  subst hg
  have hv' : v' = .slice (some ⟨g, 0, none⟩) 1 cap := hv'
  subst hv'
  have hcap : 1 ≤ cap := hcap
  have e3 : Ext Nope w2 w' := Ext.grown (Ext.refl _ _) hgrow (fun k hk _ => by cases hk)
  have hm3 := H2.out.1.ext e3 (fun z => z)
  obtain ⟨d0, d4, d21, d22, d23⟩ := hm3.at
  have f4 := hm3.free 4
  have H3 := toHid (show _ ∧ _ ∧ _ from ⟨hm3, (show OwnSp w' w.heap.size (.slice (some ⟨g, 0, none⟩) 1 cap) a b from hown'), ext0 H2.out.2.2 e3⟩)
  clear hown' hgrow e3 hm3 hi hz0 hz1 hz2 c0 c4 c21 c22 c23
  go_wp2_with fail
  have hm4 := H3.out.1.setStack (.slice (some ⟨g, 0, none⟩) 1 cap)
  have e4 : Ext (fun b => b = mb) w' (w'.setCell ⟨mb, 4, none⟩ (.slice (some ⟨g, 0, none⟩) 1 cap)) := Ext.setCell (S := fun b => b = mb) (Ext.refl _ _) mb 4 (fun _ => rfl) _
  have hgm : ¬ g = mb := by have := (World.ownsRow.lt H3.out.2.1 g rfl).1; omega
  have o4 := own_ext H3.out.2.1 e4 (fun k hk z => by have hk' : g = k := (by simpa [Value.ownBlock] using hk); have z : k = mb := z; omega)
  generalize w'.setCell ⟨mb, 4, none⟩ (.slice (some ⟨g, 0, none⟩) 1 cap) = w4 at *
  have H4 := toHid (show _ ∧ _ ∧ _ from ⟨hm4, (show OwnSp w4 w.heap.size (.slice (some ⟨g, 0, none⟩) 1 cap) a b from o4), (H3.out.2.2.mono (fun _ z => z.elim)).trans (S := fun b => b = mb) e4 (fun _ _ z => z)⟩)
  clear hm4 e4 o4 d0 d4 d21 d22 d23 f4
  obtain ⟨c0, c4, c21, c22, c23⟩ := H4.out.1.at
  have f22 := H4.out.1.free 22
  go_still_tail 11, (by kernel_rfl)
  change wpList _ _ _ _ _ w4.drew
  have hm5 : MB w4.drew mb p (.slice (some ⟨g, 0, none⟩) 1 cap) pts 0 stp := H4.out.1
  obtain ⟨k0, k4, k21, k22, k23⟩ := hm5.at
  have f22' := hm5.free 22
  go_wp2_with fail
  go_ret
  have e6 : Ext (fun b => b = mb) w4 (w4.drew.setCell ⟨mb, 22, none⟩ (.int .i64 1)) := Ext.setCell (S := fun b => b = mb) (Ext.refl _ _).drew mb 22 (fun _ => rfl) _
  refine ⟨rfl, ⟨g, cap, hcap, hm5.setHigh 1, own_ext H4.out.2.1 e6 (fun k hk z => by have hk' : g = k := (by simpa [Value.ownBlock] using hk); have z : k = mb := z; omega)⟩, H4.out.2.2.trans e6 (fun _ _ z => z)⟩
set_option maxRecDepth 100000 in
set_option maxHeartbeats 1000000 in
/-- push N -/
theorem do_push {w : World} {mb : Nat} {p pts : Value} {stp n : Int} (h : MB w mb p (.slice none 0 0) pts 0 stp) (h1 : -1000 ≤ n) (h2 : n ≤ 1000) (l : Value) :
    Calls Tryz.prog 237 #[ptr mb, .int .i64 n, l] w fun e w' => e = .returned (.int .i64 0) ∧ (∃ g cap, 1 ≤ cap ∧ MB w' mb p (.slice (some ⟨g, 0, none⟩) 1 cap) pts 1 stp ∧ OwnSp w' w.heap.size (.slice (some ⟨g, 0, none⟩) 1 cap) n n) ∧ Ext (fun b => b = mb) w w' := by
  have e1 : Ext Nope w (w.alloc (.cells #[.int .i64 n, .int .i64 n] 262)) := (Ext.refl _ _).alloc _
  have HP := toHid (push_first (h.ext e1 (fun z => z)) (heap_alloc_new w (.cells #[.int .i64 n, .int .i64 n] 262)) (by omega) (by omega) (by omega) (by omega))
  have HE := toHid e1
  clear h e1
  go_enter Tryz.func237, Tryz.ntmps237
  go_wp2_with fail
  refine HP.out.mono ?_
  rintro e w2 ⟨rfl, ⟨g, cap, hc, hm, ho⟩, e2⟩
  have H2 := toHid (show _ ∧ _ ∧ _ from ⟨hm, ho, ext1 HE.out e2⟩)
  clear e2 HP
  go_wp2_with fail
  go_ret
  exact ⟨rfl, ⟨g, cap, hc, H2.out.1, own_base H2.out.2.1 (fun k hk => by have := (World.ownsRow.lt H2.out.2.1 k hk).1; simp at this; omega)⟩, H2.out.2.2⟩
set_option maxHeartbeats 1000000 in
/-- the place of a point's first coordinate -/
theorem x_at {w : World} {mb gp np cap n : Nat} {p st : Value} {hi stp : Int} (h : MB w mb p st (.slice (some ⟨gp, 0, none⟩) np cap) hi stp) (hn : n < np) :
    Calls Tryz.prog 234 #[ptr mb, .int .i64 n] w fun e w' => e = .returned (.pointer (some ⟨gp, n * 4, none⟩)) ∧ w = w' := by
  obtain ⟨c0, c4, c21, c22, c23⟩ := h.at
  have s1 : (0 : Int) ≤ (n : Int) := by omega
  have s2 : (n : Int) < (np : Int) := by omega
  have hlt := h.lt
  clear h
  go_enter Tryz.func234, Tryz.ntmps234
  go_wp2_with fail
  go_ret
  exact ⟨rfl, rfl⟩
set_option maxRecDepth 100000 in
set_option maxHeartbeats 2000000 in
/-- setx N -/
theorem do_set {w : World} {mb gp np cap g cg fb n base T : Nat} {p st : Value} {hi stp a b : Int} {pc : Array Value} (h : MB w mb p st (.slice (some ⟨gp, 0, none⟩) np cap) hi stp) (hn : n < np) (hfb : w.heap[fb]? = some (.cells #[.func (.func 234) #[] #[]] 332 (0, 0))) (ho : OwnSp w base (.slice (some ⟨g, 0, none⟩) 1 cg) a b) (hpc : w.heap[gp]? = some (.cells pc T (0, 0))) (hps : np * 4 ≤ pc.size) :
    Calls Tryz.prog 305 #[ptr mb, .int .i64 n, .slice (some ⟨g, 0, none⟩) 1 cg, ptr fb] w fun e w' => e = .returned (.int .i64 0) ∧ Ext (fun k => k = gp) w w' := by
  have cf : w.cell? ⟨fb, 0, none⟩ = some (.func (.func 234) #[] #[]) := by rw [show (⟨fb, 0, none⟩ : Addr) = at_ fb 0 from rfl, cell_of_blk hfb]; rfl
  have cl0 : w.cell? ⟨g, 0, none⟩ = some (.int .i64 a) := own_cell ho (j := 0) rfl
  have cl1 : w.cell? ⟨g, 1, none⟩ = some (.int .i64 b) := own_cell ho (j := 1) rfl
  have HX := toHid (fun W (e : Ext Nope w W) => x_at (h.ext e (fun z => z)) hn)
  have hent : Enters 234 := enters_of Tryz.func234 (by kernel_rfl) rfl
  have f0 : w.frozen? ⟨gp, n * 4, none⟩ = false := free_of_blk hpc _
  have f1 : w.frozen? ⟨gp, n * 4 + 1, none⟩ = false := free_of_blk hpc _
  have q0 : w.cell? ⟨gp, n * 4, none⟩ = some pc[n * 4] := by rw [show (⟨gp, n * 4, none⟩ : Addr) = at_ gp (n * 4) from rfl, cell_of_blk hpc]; exact Array.getElem?_eq_getElem (by omega)
  have q1 : w.cell? ⟨gp, n * 4 + 1, none⟩ = some pc[n * 4 + 1] := by rw [show (⟨gp, n * 4 + 1, none⟩ : Addr) = at_ gp (n * 4 + 1) from rfl, cell_of_blk hpc]; exact Array.getElem?_eq_getElem (by omega)
  generalize pc[n * 4] = z0 at *
  generalize pc[n * 4 + 1] = z1 at *
  clear h hfb ho hpc hps
  go_enter Tryz.func305, Tryz.ntmps305
  go_wp2_with fail
  refine wp_region_head 7 (fun w' => w'.cell? ⟨fb, 0, none⟩ = some (.func (.func 234) #[] #[]) ∧ w'.cell? ⟨g, 0, none⟩ = some (.int .i64 a) ∧ w'.cell? ⟨g, 1, none⟩ = some (.int .i64 b)) (by kernel_rfl) (by kernel_rfl) ⟨cf, cl0, cl1⟩ (fun hO hHeld => ?_)
  refine wpAnyT_takeD (i := 0) (d := some 8) (v := ?_) hO rfl rfl (by kernel_rfl) (fun _ _ _ h => h) (Or.inl ⟨by rfl, ?_⟩) (by exact hHeld) ?_
  rotate_left
  · intro w' hSw
    obtain ⟨r0, r1, r2⟩ := hSw
    go_simp
    try (with_reducible rfl)
  try simp only [Act.put, List.setIfInBounds_toArray, List.set_cons_zero, List.set_cons_succ]
  refine wpAnyT_takeD (i := 1) (d := some 9) (v := ?_) hO rfl rfl (by kernel_rfl) (fun _ _ _ h => h) (Or.inl ⟨by rfl, ?_⟩) (by exact hHeld) ?_
  rotate_left
  · intro w' hSw
    obtain ⟨r0, r1, r2⟩ := hSw
    go_simp
    try (with_reducible rfl)
  try simp only [Act.put, List.setIfInBounds_toArray, List.set_cons_zero, List.set_cons_succ]
  refine wpAnyT_takeD (i := 2) (d := some 10) (v := ?_) hO rfl rfl (by kernel_rfl) (fun _ _ _ h => h) (Or.inl ⟨by rfl, ?_⟩) (by exact hHeld) ?_
  rotate_left
  · intro w' hSw
    obtain ⟨r0, r1, r2⟩ := hSw
    go_simp
    try (with_reducible rfl)
  try simp only [Act.put, List.setIfInBounds_toArray, List.set_cons_zero, List.set_cons_succ]
  refine wpAnyT_takeD (i := 4) (d := some 12) (v := ?_) hO rfl rfl (by kernel_rfl) (fun _ _ _ h => h) (Or.inl ⟨by rfl, ?_⟩) (by exact hHeld) ?_
  rotate_left
  · intro w' hSw
    obtain ⟨r0, r1, r2⟩ := hSw
    go_simp
    try (with_reducible rfl)
  try simp only [Act.put, List.setIfInBounds_toArray, List.set_cons_zero, List.set_cons_succ]
  refine wpAnyT_takeD (i := 5) (d := some 13) (v := ?_) hO rfl rfl (by kernel_rfl) (fun _ _ _ h => h) (Or.inl ⟨by rfl, ?_⟩) (by exact hHeld) ?_
  rotate_left
  · intro w' hSw
    obtain ⟨r0, r1, r2⟩ := hSw
    go_simp
    try (with_reducible rfl)
  try simp only [Act.put, List.setIfInBounds_toArray, List.set_cons_zero, List.set_cons_succ]
  refine wpAnyT_takeD (i := 6) (d := some 14) (v := ?_) hO rfl rfl (by kernel_rfl) (fun _ _ _ h => h) (Or.inl ⟨by rfl, ?_⟩) (by exact hHeld) ?_
  rotate_left
  · intro w' hSw
    obtain ⟨r0, r1, r2⟩ := hSw
    go_simp
    try (with_reducible rfl)
  try simp only [Act.put, List.setIfInBounds_toArray, List.set_cons_zero, List.set_cons_succ]
  refine wpAnyT_one (i := 3) rfl (by kernel_rfl) (by rfl) (fun K hK => ?_)
  go_simp
  refine (HX.out _ (Ext.refl _ _).drew).mono ?_
  rintro e w2 ⟨rfl, rfl⟩
  try go_simp
  refine hK.out _ _ hHeld (fun _ => ?_)
  clear hK K
  try simp only [Act.put, List.setIfInBounds_toArray, List.set_cons_zero, List.set_cons_succ]
  refine wpAnyT_done (by kernel_rfl) ⟨by kernel_rfl, ?_⟩
  simp only [List.drop_succ_cons, List.drop_zero]
  have f0' : w.drew.frozen? ⟨gp, n * 4, none⟩ = false := f0
  have f1' : w.drew.frozen? ⟨gp, n * 4 + 1, none⟩ = false := f1
  have q0' : w.drew.cell? ⟨gp, n * 4, none⟩ = some z0 := q0
  have q1' : w.drew.cell? ⟨gp, n * 4 + 1, none⟩ = some z1 := q1
  go_wp2_with fail
  trace_state
  go_ret
  refine ⟨rfl, ?_⟩
  exact Ext.setCell (S := fun b => b = gp) (Ext.setCell (S := fun b => b = gp) (Ext.refl _ _).drew gp _ (fun _ => rfl) _) gp _ (fun _ => rfl) _
end Go.Proofs.YtajebdpalnpjdaaGreatDoor
namespace Go.Proofs.YtajebdpalnpjdaaGreatDoor
open Go.RowKit
attribute [local go_sem] alloc_drewN setCell_drewN

theorem field_takes (x y : Value) (W : World) : (Instr.field 330 (.agg #[x, y]) 0).run Tryz.prog W = .ok x W := by kernel_rfl
theorem field_do (x y : Value) (W : World) : (Instr.field 330 (.agg #[x, y]) 1).run Tryz.prog W = .ok y W := by kernel_rfl
theorem RulesAt.blk {w : World} {M : Nat} (h : RulesAt w M) : ∃ es c, w.heap[M]? = some (.map es c) := by
  obtain ⟨D, fb, ⟨es, c, hb, _⟩, _⟩ := h
  exact ⟨es, c, hb⟩
theorem RulesAt.ext2 {w w' : World} {M : Nat} {S : Nat → Prop} (h : RulesAt w M) (e : Ext S w w') (hs : ∀ b, S b → ∃ c T, w.heap[b]? = some (.cells c T (0, 0)) ∧ T ≠ 332) : RulesAt w' M := by
  refine h.ext e (fun z => ?_) (fun b c T z hb => ?_)
  · obtain ⟨c, T, h1, _⟩ := hs M z
    obtain ⟨es, k, h2⟩ := h.blk
    rw [h1] at h2
    cases h2
  · obtain ⟨c', T', h1, h2⟩ := hs b z
    rw [h1] at hb
    cases hb
    exact h2
theorem RulesAt.one {w : World} {M : Nat} (h : RulesAt w M) : (Instr.lookup 272 (.map (some M)) (.int .i64 1) false).run Tryz.prog w = .ok (.agg #[.int .i64 0, .func (.func 237) #[] #[]]) w := by
  obtain ⟨D, fb, h1, h2, _⟩ := h
  exact h1.at 1 (by omega) (by omega) h2
theorem RulesAt.seventeen {w : World} {M : Nat} (h : RulesAt w M) : ∃ fb, w.heap[fb]? = some (.cells #[.func (.func 234) #[] #[]] 332 (0, 0)) ∧ (Instr.lookup 272 (.map (some M)) (.int .i64 17) false).run Tryz.prog w = .ok (.agg #[.int .i64 1, .func (.func 305) #[] #[ptr fb]]) w ∧ ∀ {S : Nat → Prop} {w' : World}, Ext S w w' → (∀ b, S b → ∃ c T, w.heap[b]? = some (.cells c T (0, 0)) ∧ T ≠ 332) → w'.heap[fb]? = some (.cells #[.func (.func 234) #[] #[]] 332 (0, 0)) ∧ (Instr.lookup 272 (.map (some M)) (.int .i64 17) false).run Tryz.prog w' = .ok (.agg #[.int .i64 1, .func (.func 305) #[] #[ptr fb]]) w' := by
  have hblk := h.blk
  obtain ⟨D, fb, h1, h2, h3, h4⟩ := h
  refine ⟨fb, h4, h1.at 17 (by omega) (by omega) h3, fun {S w'} e hs => ⟨(e.block fb (lt_of_heap h4) (fun z => ?_)).trans h4, (h1.ext e (fun z => ?_)).at 17 (by omega) (by omega) h3⟩⟩
  · obtain ⟨c, T, g1, g2⟩ := hs fb z
    rw [h4] at g1
    cases g1
    exact g2 rfl
  · obtain ⟨c, T, g1, _⟩ := hs M z
    obtain ⟨es, k, g2⟩ := hblk
    rw [g1] at g2
    cases g2
def St1 (w wr : World) (mb : Nat) (p pts : Value) : Prop := ∃ g cap, 1 ≤ cap ∧ MB wr mb p (.slice (some ⟨g, 0, none⟩) 1 cap) pts 1 1 ∧ OwnSp wr w.heap.size (.slice (some ⟨g, 0, none⟩) 1 cap) 5 5 ∧ Ext (fun b => b = mb) w wr
def St2 (w wr : World) (mb gp : Nat) (p pts : Value) : Prop := (∃ st hi stp, MB wr mb p st pts hi stp) ∧ Ext (fun b => b = mb ∨ b = gp) w wr
set_option maxRecDepth 100000 in
set_option maxHeartbeats 4000000 in
/-- machine.run of the one program -/
theorem run_A {A : Nat → Prop} {w : World} {mb M gp np cap : Nat} {p : Value} {pc : Array Value} (hm : MB w mb p (.slice none 0 0) (.slice (some ⟨gp, 0, none⟩) np cap) 0 0) (hp : Rd A w [p] (.l 2 (progA.map pairD))) (hA : ∀ b, A b → b ≠ mb) (hr : RulesAt w M) (hpc : w.heap[gp]? = some (.cells pc 269 (0, 0))) (hps : np * 4 ≤ pc.size) (hnp : 2 ≤ np) :
    Calls Tryz.prog 180 #[ptr mb, .map (some M), .int .i64 0, .int .i64 2] w fun e w' => e = .returned (.int .i64 0) ∧ St2 w w' mb gp p (.slice (some ⟨gp, 0, none⟩) np cap) := by
  obtain ⟨ap, cp, hv, hcp, _⟩ := hp.len
  have hv : p = .slice ap 2 cp := hv
  have hcp : 2 ≤ cp := hcp
  subst hv
  have HM := toHid hm
  have HP := toHid (show _ ∧ _ from ⟨hp, hA⟩)
  have HR := toHid hr
  have HPC := toHid (show _ ∧ _ from ⟨hpc, hps⟩)
  have HT := toHid (show ∀ b, (fun b => b = mb) b → ∃ c T, w.heap[b]? = some (.cells c T (0, 0)) ∧ T ≠ 332 from fun b hb => by
    have hb : b = mb := hb
    subst hb
    exact ⟨_, _, hm, by decide⟩)
  have hlt := hm.lt
  have hgp := lt_of_heap hpc
  have hgm : gp ≠ mb := fun z => by rw [z] at hpc; unfold MB at hm; rw [hpc] at hm; simp at hm
  have ent1 : Enters 237 := enters_of Tryz.func237 (by kernel_rfl) rfl
  have ent2 : Enters 305 := enters_of Tryz.func305 (by kernel_rfl) rfl
  clear hm hp hr hpc hps
  have ft := field_takes
  have fd := field_do
  go_enter Tryz.func180, Tryz.ntmps180
  go_wp2_with fail
  go_loopw [9] (fun i wr => (i = .int .i64 0 ∧ wr = w) ∨ (i = .int .i64 1 ∧ St1 w wr mb (.slice ap 2 cp) (.slice (some ⟨gp, 0, none⟩) np cap)) ∨ (i = .int .i64 2 ∧ St2 w wr mb gp (.slice ap 2 cp) (.slice (some ⟨gp, 0, none⟩) np cap))) (fun i _ => 2 - (intOf i).toNat)
  case atStart => exact .inl ⟨rfl, rfl⟩
  case round =>
    rename World => wr
    rcases hrel with ⟨rfl, hw⟩ | ⟨rfl, hS⟩ | ⟨rfl, hS⟩
    · subst hw
      obtain ⟨b, off, rfl, hb, c0, c1⟩ := HP.out.1.pairs_at (k := 0) (p := (1, 5)) rfl
      have c0 : wr.cell? ⟨b, off, none⟩ = some (.int .i64 1) := c0
      have c1 : wr.cell? ⟨b, off + 1, none⟩ = some (.int .i64 5) := c1
      obtain ⟨m0, m4, m21, m22, m23⟩ := HM.out.at
      have e1 : Ext Nope wr (wr.alloc (.cells #[.int .i64 1, .int .i64 5] 194)) := (Ext.refl _ _).alloc _
      have r1 := (HR.out.ext2 e1 (fun b z => z.elim)).one
      have HS1 := toHid (step_none (HM.out.ext e1 (fun z => z)) (by omega) (by omega))
      have HE1 := toHid e1
      have HB1 := toHid (heap_alloc_new wr (.cells #[.int .i64 1, .int .i64 5] 194))
      clear e1
      go_wp2_with fail
      refine HS1.out.mono ?_
      rintro e w2 ⟨rfl, hm2, e2⟩
      have E2 : Ext (fun b => b = mb) wr w2 := ext1 HE1.out e2
      have r2 := (HR.out.ext2 E2 HT.out).one
      have hx2 := (e2.block wr.heap.size (by simp) (fun z => by have z : wr.heap.size = mb := z; omega)).trans HB1.out
      have d0 : w2.cell? ⟨wr.heap.size, 0, none⟩ = some (.int .i64 1) := by rw [show (⟨wr.heap.size, 0, none⟩ : Addr) = at_ wr.heap.size 0 from rfl, cell_of_blk hx2]; rfl
      have d1 : w2.cell? ⟨wr.heap.size, 1, none⟩ = some (.int .i64 5) := by rw [show (⟨wr.heap.size, 1, none⟩ : Addr) = at_ wr.heap.size 1 from rfl, cell_of_blk hx2]; rfl
      have H2 := toHid (show _ ∧ _ from ⟨hm2, E2⟩)
      clear e2 hm2 E2 hx2 HS1 r1 m0 m4 m21 m22 m23 c0 c1
      go_wp2_with fail
      refine (do_push H2.out.1 (n := 5) (by omega) (by omega) _).mono ?_
      rintro e w3 ⟨rfl, ⟨g, cg, hc, hm3, ho3⟩, e3⟩
      have H3 := toHid (show St1 wr w3 mb (.slice (some ⟨b, off, none⟩) 2 cp) (.slice (some ⟨gp, 0, none⟩) np cap) from ⟨g, cg, hc, hm3, own_base ho3 (fun k hk => by have := (World.ownsRow.lt ho3 k hk).1; have := H2.out.2.size; omega), H2.out.2.trans e3 (fun _ _ z => z)⟩)
      clear hm3 ho3 e3 d0 d1 r2
      go_wp2_with fail
      refine ⟨.inr (.inl ⟨rfl, H3.out⟩), ?_⟩
      simp [intOf]
    · obtain ⟨g, cg, hc, hm1, ho1, e0⟩ := hS
      have HM1 := toHid (show _ ∧ _ ∧ _ from ⟨hm1, ho1, e0⟩)
      have hp1 := HP.out.1.ext e0 (fun b hb z => HP.out.2 b hb z)
      obtain ⟨b, off, rfl, hb, c0, c1⟩ := hp1.pairs_at (k := 1) (p := (17, 1)) rfl
      have c0 : wr.cell? ⟨b, off + 2, none⟩ = some (.int .i64 17) := c0
      have c1 : wr.cell? ⟨b, off + 3, none⟩ = some (.int .i64 1) := c1
      obtain ⟨m0, m4, m21, m22, m23⟩ := hm1.at
      obtain ⟨fb, hfb, _, hat⟩ := HR.out.seventeen
      have HAT := toHid (show ∀ W, Ext (fun b => b = mb) w W → _ from fun W e => hat e HT.out)
      have e1 : Ext Nope wr (wr.alloc (.cells #[.int .i64 17, .int .i64 1] 194)) := (Ext.refl _ _).alloc _
      have E1 : Ext (fun b => b = mb) w (wr.alloc (.cells #[.int .i64 17, .int .i64 1] 194)) := ext0 e0 e1
      have r1 := (HAT.out _ E1).2
      have hgm1 : g ≠ mb := by have := (World.ownsRow.lt ho1 g rfl).1; omega
      have HS1 := toHid (step_one (hm1.ext e1 (fun z => z)) (own_ext ho1 e1 (fun _ _ z => z)) hc hgm1 (by omega) (by omega))
      have HE1 := toHid e1
      have hlw := e0.size
      have HB1 := toHid (heap_alloc_new wr (.cells #[.int .i64 17, .int .i64 1] 194))
      clear e1 E1 hm1 ho1 e0 hp1 hat hfb
      go_wp2_with fail
      refine HS1.out.mono ?_
      rintro e w2 ⟨v, rfl, ho2, ⟨st2, hm2⟩, e2⟩
      have E2 : Ext (fun b => b = mb) w w2 := (ext0 HM1.out.2.2 HE1.out).trans e2 (fun _ _ z => z)
      obtain ⟨hf2, r2⟩ := HAT.out _ E2
      have hx2 := (e2.block wr.heap.size (by simp) (fun z => by have z : wr.heap.size = mb := z; omega)).trans HB1.out
      have d0 : w2.cell? ⟨wr.heap.size, 0, none⟩ = some (.int .i64 17) := by rw [show (⟨wr.heap.size, 0, none⟩ : Addr) = at_ wr.heap.size 0 from rfl, cell_of_blk hx2]; rfl
      have d1 : w2.cell? ⟨wr.heap.size, 1, none⟩ = some (.int .i64 1) := by rw [show (⟨wr.heap.size, 1, none⟩ : Addr) = at_ wr.heap.size 1 from rfl, cell_of_blk hx2]; rfl
      obtain ⟨av, cv, hv, _, _, hgg⟩ := own_gen ho2
      obtain ⟨gv, hgv⟩ := hgg (by omega)
      subst hgv
      subst hv
      have hpc2 := (E2.block gp hgp (fun z => hgm z)).trans HPC.out.1
      have HD := toHid (do_set hm2 (n := 1) (by omega) hf2 ho2 hpc2 HPC.out.2)
      have H2 := toHid (show _ ∧ _ from ⟨hm2, E2⟩)
      clear e2 hm2 E2 hx2 HS1 r1 m0 m4 m21 m22 m23 c0 c1 ho2 hpc2 hf2
      go_wp2_with fail
      refine HD.out.mono ?_
      rintro e w3 ⟨rfl, e3⟩
      have H3 := toHid (show St2 w w3 mb gp (.slice (some ⟨b, off, none⟩) 2 cp) (.slice (some ⟨gp, 0, none⟩) np cap) from ⟨⟨st2, 1, 1 + 1, H2.out.1.ext e3 (fun z => hgm z.symm)⟩, (H2.out.2.mono (fun b z => Or.inl z)).trans (S := fun b => b = mb ∨ b = gp) (e3.mono (fun b z => Or.inr z)) (fun _ _ z => z)⟩)
      clear e3 d0 d1 r2 HD
      go_wp2_with fail
      refine ⟨.inr (.inr ⟨rfl, H3.out⟩), ?_⟩
      simp [intOf]
    · have HS := toHid hS
      clear hS
      go_wp2_with fail
      go_ret
      exact ⟨rfl, HS.out⟩
end Go.Proofs.YtajebdpalnpjdaaGreatDoor
namespace Go.Proofs.YtajebdpalnpjdaaGreatDoor
open Go.RowKit
attribute [local go_sem] alloc_drewN setCell_drewN

theorem ext_setRow (w : World) (g : Nat) (cs : Array Value) : Ext (fun b => b = g) w (w.setRow g cs) := ⟨rfl, rfl, rfl, by simp [World.setRow], fun k _ hk => setRow_other w g k cs hk⟩
theorem wp_copy {w : World} {o : Oper} {a : Act} {K : Act → World → Prop} {Q : Exit → Act → World → Prop} (d s : Operand) (dT sT E sz by_ : Nat) (z : Value)
    (ho : o.op = .call { callee := .builtin .copy, args := #[d, s], argTypes := #[dT, sT] }) (hu : Tryz.prog.underlying dT = some (.slice E)) (hinf : (Tryz.prog.info? E).map (fun i => (i.zero, i.size, i.bytes)) = some (some z, sz, by_))
    (g off dLen dCap : Nat) (ad : Addr) (sLen sCap : Nat) (hd : a.eval d = .slice (some ⟨g, off, none⟩) dLen dCap) (hs : a.eval s = .slice (some ad) sLen sCap)
    (cur : List Value) (hg : w.heap[g]? = some (.cells cur.toArray E (0, 0))) (cs : List Value) (hn : cs.length = Nat.min sLen dLen * sz)
    (hsrc : ∀ j v, cs[j]? = some v → w.cell? (ad.add j) = some v) (hfit : off + cs.length ≤ cur.length) (h1 : ∀ v ∈ cs, v.oneCell' = true)
    (h : ∀ w', Hid (w'.heap[g]? = some (.cells (splice cur off cs).toArray E (0, 0))) → Ext (fun b => b = g) w w' → K (a.put o.dst (goInt (Nat.min sLen dLen))) w') : Oper.wp Tryz.prog o a w K Q := by
  have hl := run_loadCells_list (P := Tryz.prog) w ad cs hsrc
  have hst := run_storeCells_at Tryz.prog g off E cs 0 cur.toArray w hg (by simpa using hfit) h1
  have hrun : (Builtin.copy_ #[dT, sT] o.type #[.slice (some ⟨g, off, none⟩) dLen dCap, .slice (some ad) sLen sCap]).run Tryz.prog w = .ok (goInt (Nat.min sLen dLen)) (w.setRow g (splice cur off cs).toArray) := by
    obtain ⟨i, hi, h0, hi4, h2⟩ := info_parts hinf
    simp [Builtin.copy_, run_underlying hu, Builtin.lenOf, Builtin.firstCells, sizeOf, typeInfo, hi, hi4, ← hn, hl, hst, splice]
  unfold Oper.wp
  simp [execOp, ho, resolve, invoke, builtin, hd, hs, hrun, Result.andThen]
  exact h _ (toHid (setRow_heap w g _ _ E _ hg)) (ext_setRow _ _ _)
theorem wl_copy {w : World} {ops : Array Oper} {rest : List Oper} {o : Oper} {a : Act} {Q : Exit → Act → World → Prop} (hgd : o.guard = none) (d s : Operand) (dT sT E sz by_ : Nat) (z : Value)
    (ho : o.op = .call { callee := .builtin .copy, args := #[d, s], argTypes := #[dT, sT] }) (hu : Tryz.prog.underlying dT = some (.slice E)) (hinf : (Tryz.prog.info? E).map (fun i => (i.zero, i.size, i.bytes)) = some (some z, sz, by_))
    (g off dLen dCap : Nat) (ad : Addr) (sLen sCap : Nat) (hd : a.eval d = .slice (some ⟨g, off, none⟩) dLen dCap) (hs : a.eval s = .slice (some ad) sLen sCap)
    (cur : List Value) (hg : w.heap[g]? = some (.cells cur.toArray E (0, 0))) (cs : List Value) (hn : cs.length = Nat.min sLen dLen * sz)
    (hsrc : ∀ j v, cs[j]? = some v → w.cell? (ad.add j) = some v) (hfit : off + cs.length ≤ cur.length) (h1 : ∀ v ∈ cs, v.oneCell' = true)
    (h : ∀ w', Hid (w'.heap[g]? = some (.cells (splice cur off cs).toArray E (0, 0))) → Ext (fun b => b = g) w w' → wpList Tryz.prog ops Q rest (a.put o.dst (goInt (Nat.min sLen dLen))) w') : wpList Tryz.prog ops Q (o :: rest) a w :=
  wpList_plain hgd fun K hK => wp_copy d s dT sT E sz by_ z ho hu hinf g off dLen dCap ad sLen sCap hd hs cur hg cs hn hsrc hfit h1 fun w' r e => hK _ _ (h w' r e)
/-- Some copies of a pattern, then zeros. -/
def rep (pat zs : List Value) (k m : Nat) : List Value := (List.replicate k pat).flatten ++ (List.replicate m zs).flatten
theorem flat_len (p : List Value) (k : Nat) : (List.replicate k p).flatten.length = k * p.length := by simp
theorem rep_splice {pat zs : List Value} {k m j : Nat} (hz : zs.length = pat.length) (hj : j ≤ m) : splice (rep pat zs k m) (k * pat.length) (List.replicate j pat).flatten = rep pat zs (k + j) (m - j) := by
  unfold splice rep
  have e1 : ((List.replicate k pat).flatten ++ (List.replicate m zs).flatten).take (k * pat.length) = (List.replicate k pat).flatten := by
    rw [List.take_append_of_le_length (by rw [flat_len]; exact Nat.le_refl _), List.take_of_length_le (by rw [flat_len]; exact Nat.le_refl _)]
  have e2 : ((List.replicate k pat).flatten ++ (List.replicate m zs).flatten).drop (k * pat.length + (List.replicate j pat).flatten.length) = (List.replicate (m - j) zs).flatten := by
    rw [flat_len, List.drop_append, flat_len, List.drop_eq_nil_of_le (by rw [flat_len]; exact Nat.le_add_right _ _), List.nil_append, Nat.add_sub_cancel_left]
    have : (List.replicate m zs).flatten = (List.replicate j zs).flatten ++ (List.replicate (m - j) zs).flatten := by
      rw [← List.flatten_append, List.replicate_append_replicate, show j + (m - j) = m by omega]
    rw [this, List.drop_append, flat_len, hz, List.drop_eq_nil_of_le (by rw [flat_len, hz]; exact Nat.le_refl _), List.nil_append, Nat.sub_self, List.drop_zero]
  rw [e1, e2, ← List.append_assoc, ← List.flatten_append, List.replicate_append_replicate]
theorem rep_length {pat zs : List Value} {k m : Nat} (hz : zs.length = pat.length) : (rep pat zs k m).length = (k + m) * pat.length := by
  unfold rep
  rw [List.length_append, flat_len, flat_len, hz, Nat.add_mul]
end Go.Proofs.YtajebdpalnpjdaaGreatDoor
