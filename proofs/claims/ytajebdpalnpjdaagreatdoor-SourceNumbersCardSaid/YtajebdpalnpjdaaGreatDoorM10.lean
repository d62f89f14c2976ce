/-
  The line of a contour.
  A line of a source: what is done with its kind, and that it recovers.
-/
import Derived.Test.YtajebdpalnpjdaaGreatDoorM09
import Derived.Defers
import Derived.Recover
namespace Go.Proofs.YtajebdpalnpjdaaGreatDoor
open Go.RowKit
attribute [local go_sem] alloc_drewN setCell_drewN

/-- reader.contour -/
theorem contour_ok {w : World} (G : Glob w) (hg : 11 ≤ w.heap.size) {rb : Nat} {B : Nat → Prop} {cs : List Value} (hb : 11 ≤ rb) (hB : ∀ b, B b → b < w.heap.size) {c : List PtA} (h : RL w rb B cs (c.map ptText)) (hc : ∀ p ∈ c, Pt7 p) (hl : c.length ≤ 100000) :
    Calls Tryz.prog 58 #[ptr rb] w fun e w' => ∃ v, e = .returned v ∧ OwnP w' w.heap.size v c ∧ RL w' rb B cs [] ∧ Ext (fun b => b = rb) w w' := by
  have HL := toHid (list_points G hg hb hB h hc hl)
  clear G h hc
  go_enter Tryz.func58, Tryz.ntmps58
  go_wp2_with fail
  refine HL.out.mono ?_
  rintro e w2 ⟨v, rfl, o2, r2, e2⟩
  have H2 := toHid (show _ ∧ _ ∧ _ from ⟨o2, r2, e2⟩)
  clear o2 r2 e2 HL
  go_wp2
  go_ret
  exact ⟨_, rfl, H2.out.1, H2.out.2.1, H2.out.2.2⟩
theorem own_apart {w : World} {b1 b2 E1 E2 s1 s2 n1 n2 : Nat} {v1 v2 : Value} {x1 x2 : List Value} (h1 : w.ownsRow b1 E1 s1 v1 n1 x1) (h2 : w.ownsRow b2 E2 s2 v2 n2 x2) (hne : E1 ≠ E2) : ∀ g, v1.ownBlock = some g → ¬ v2.ownBlock = some g := by
  intro g hg hg2
  obtain ⟨_, ⟨rfl, _⟩ | ⟨g1, cap1, cur1, rfl, _, hh1, _⟩⟩ := h1
  · cases hg
  · obtain ⟨_, ⟨rfl, _⟩ | ⟨g2, cap2, cur2, rfl, _, hh2, _⟩⟩ := h2
    · cases hg2
    · have e1 : g1 = g := by simpa [Value.ownBlock] using hg
      have e2 : g2 = g := by simpa [Value.ownBlock] using hg2
      rw [e1] at hh1
      rw [e2, hh1] at hh2
      simp at hh2
      exact hne hh2.2
theorem infoK : (Tryz.prog.info? 48).map (fun i => (i.zero, i.size, i.bytes)) = some (some (.slice none 0 0), 1, 24) := by kernel_rfl
/-- A slice of contours of one's own. -/
def OwnK (w : World) (base : Nat) (v : Value) (cvs : List Value) : Prop := w.ownsRow base 48 1 v cvs.length cvs
theorem gCells_set (gs : List (Value × Int × Value)) (vc vc' : Value) (a : Int) (vp : Value) : (gCells (gs ++ [(vc, a, vp)])).set (gs.length * 8) vc' = gCells (gs ++ [(vc', a, vp)]) := by
  have hlen : (gCells gs).length = gs.length * 8 := by
    induction gs with
    | nil => rfl
    | cons g gs ih =>
      show (gRow g ++ gCells gs).length = _
      rw [List.length_append, ih, List.length_cons]
      simp [gRow]
      omega
  rw [gCells_append, gCells_append, ← hlen, List.set_append_right _ _ (Nat.le_refl _), Nat.sub_self]
  rfl
theorem gCells_at (gs : List (Value × Int × Value)) (vc : Value) (a : Int) (vp : Value) : (gCells (gs ++ [(vc, a, vp)]))[gs.length * 8]? = some vc := by
  have hlen : (gCells gs).length = gs.length * 8 := by
    induction gs with
    | nil => rfl
    | cons g gs ih =>
      show (gRow g ++ gCells gs).length = _
      rw [List.length_append, ih, List.length_cons]
      simp [gRow]
      omega
  rw [gCells_append, ← hlen, List.getElem?_append_right (Nat.le_refl _), Nat.sub_self]
  rfl
set_option maxRecDepth 100000 in
set_option maxHeartbeats 4000000 in
/-- reader.glyph of 'contour' -/
theorem glyph_contour {w : World} (G : Glob w) (hg : 11 ≤ w.heap.size) {rb base : Nat} {B : Nat → Prop} {cs : List Value} (hb : 11 ≤ rb) (hrb : rb < base) (hbw : base ≤ w.heap.size) {c : List PtA} (h : RL w rb B cs (c.map ptText)) (hc : ∀ p ∈ c, Pt7 p) (hl : c.length ≤ 100000)
    {vg vc vp : Value} {a : Int} {gs : List (Value × Int × Value)} {cvs : List Value} (hcs : cs[10]? = some vg) (hBg : ∀ b, B b → b < w.heap.size ∧ ¬ vg.ownBlock = some b ∧ ¬ vc.ownBlock = some b) (ho : OwnG w base vg (gs ++ [(vc, a, vp)])) (hgl : gs.length ≤ 100000) (hk : OwnK w base vc cvs) (hkl : cvs.length ≤ 100000) :
    Calls Tryz.prog 24 #[ptr rb, .string k_contour] w fun e w' => e = .returned (.tuple #[]) ∧ ∃ vc' v, RL w' rb B cs [] ∧ OwnG w' base vg (gs ++ [(vc', a, vp)]) ∧ OwnK w' base vc' (cvs ++ [v]) ∧ OwnP w' w.heap.size v c ∧ Ext (fun b => b = rb ∨ vg.ownBlock = some b ∨ vc.ownBlock = some b) w w' := by
  have HO := toHid ho
  have HKK := toHid hk
  have HC := toHid hcs
  obtain ⟨av, cv, hv, hcv, _, hgg⟩ := own_gen (show w.ownsRow base 47 8 vg (gs ++ [(vc, a, vp)]).length _ from ho)
  rw [List.length_append, List.length_singleton] at hv hcv hgg
  obtain ⟨g, rfl⟩ := hgg (by omega)
  subst hv
  obtain ⟨ac, cc, hvc, hcc, _⟩ := own_gen (show w.ownsRow base 48 1 vc cvs.length _ from hk)
  obtain ⟨k, HK⟩ : ∃ k, Hid (gs.length = k) := ⟨_, rfl⟩
  obtain ⟨q, HQ⟩ : ∃ q, Hid (cvs.length = q) := ⟨_, rfl⟩
  rw [HQ.out] at hvc hcc hkl
  subst hvc
  have c10 : w.cell? ⟨rb, 10, none⟩ = some (.slice (some ⟨g, 0, none⟩) (gs.length + 1) cv) := (h.at (by omega)).1.trans hcs
  have ck : w.cell? ⟨g, gs.length * 8, none⟩ = some (.slice ac q cc) := own_cell (by unfold OwnG at ho; exact ho) (gCells_at _ _ _ _)
  rw [HK.out] at c10 ck hcv hgl
  have HN := toHid (show ∀ W, Ext Nope w W → _ from fun W e => contour_ok (G.ext0 e) (Nat.le_trans hg e.size) hb (fun b z => Nat.lt_of_lt_of_le (hBg b z).1 e.size) (h.ext0 e) hc hl)
  have HRB : Hid (RL w rb B cs (c.map ptText)) := h
  obtain ⟨i0, hi, hz0, hz1, hz2⟩ := info_parts infoK
  have HI := toHid (show _ ∧ _ ∧ _ ∧ _ from ⟨hi, hz0, hz1, hz2⟩)
  clear G h ho hk hcs hi hz0 hz1 hz2 hc
  have s1 : (0 : Int) ≤ (k : Int) := by omega
  have s2 : IntKind.i64.wrap (k : Int) = (k : Int) := IntWalk.i64_in _ (by omega)
  have s3 : (k : Int) < (k : Int) + 1 := by omega
  go_enter Tryz.func24, Tryz.ntmps24
  go_wp2_with fail
  go_still_tail 13, (by kernel_rfl)
  change wpList _ _ _ _ _ w.drew
  go_wp2
  have ckd : w.drew.cell? ⟨g, k * 8, none⟩ = some (.slice ac q cc) := ck
  have hgb : base ≤ g ∧ g < w.heap.size := World.ownsRow.lt HO.out g (by simp [Value.ownBlock])
  have hap : ∀ b, (Value.slice ac q cc).ownBlock = some b → base ≤ b ∧ b < w.heap.size ∧ b ≠ g := fun b hb => ⟨(World.ownsRow.lt HKK.out b hb).1, (World.ownsRow.lt HKK.out b hb).2, fun z => own_apart HKK.out HO.out (by decide) b hb (by rw [z]; simp [Value.ownBlock])⟩
  clear c10 ck
  refine wp_region_head 9 (fun w' => w'.cell? ⟨g, k * 8, none⟩ = some (.slice ac q cc)) (by kernel_rfl) (by kernel_rfl) ckd (fun hO hHeld => ?_)
  refine wpAnyT_takeD (i := 0) (d := some 38) (v := ?_) hO rfl rfl (by kernel_rfl) (fun _ _ _ h => h) (Or.inl ⟨by rfl, ?_⟩) (by exact hHeld) ?_
  rotate_left
  · intro w' hSw
    go_simp
    try (with_reducible rfl)
  try simp only [Act.put, List.setIfInBounds_toArray, List.set_cons_zero, List.set_cons_succ]
  refine wpAnyT_takeD (i := 1) (d := some 39) (v := ?_) hO rfl rfl (by kernel_rfl) (fun _ _ _ h => h) (Or.inl ⟨by rfl, ?_⟩) (by exact hHeld) ?_
  rotate_left
  · intro w' hSw
    go_simp
    try (with_reducible rfl)
  try simp only [Act.put, List.setIfInBounds_toArray, List.set_cons_zero, List.set_cons_succ]
  refine wpAnyT_takeD (i := 2) (d := some 40) (v := ?_) hO rfl rfl (by kernel_rfl) (fun _ _ _ h => h) (Or.inl ⟨by rfl, ?_⟩) (by exact hHeld) ?_
  rotate_left
  · intro w' hSw
    go_simp
    try (with_reducible rfl)
  try simp only [Act.put, List.setIfInBounds_toArray, List.set_cons_zero, List.set_cons_succ]
  refine wpAnyT_takeD (i := 3) (d := some 41) (v := ?_) hO rfl rfl (by kernel_rfl) (fun _ _ _ h => h) (Or.inl ⟨by rfl, ?_⟩) (by exact hHeld) ?_
  rotate_left
  · intro w' hSw
    go_simp
    try (with_reducible rfl)
  try simp only [Act.put, List.setIfInBounds_toArray, List.set_cons_zero, List.set_cons_succ]
  refine wpAnyT_takeD (i := 4) (d := some 42) (v := ?_) hO rfl rfl (by kernel_rfl) (fun _ _ _ h => h) (Or.inl ⟨by rfl, ?_⟩) (by exact hHeld) ?_
  rotate_left
  · intro w' hSw
    go_simp
    try (with_reducible rfl)
  try simp only [Act.put, List.setIfInBounds_toArray, List.set_cons_zero, List.set_cons_succ]
  refine wpAnyT_takeD (i := 5) (d := some 43) (v := ?_) hO rfl rfl (by kernel_rfl) (fun _ _ _ h => h) (Or.inl ⟨by rfl, ?_⟩) (by exact hHeld) ?_
  rotate_left
  · intro w' hSw
    go_simp
    try (with_reducible rfl)
  try simp only [Act.put, List.setIfInBounds_toArray, List.set_cons_zero, List.set_cons_succ]
  clear hHeld
  refine wpAnyT_one (i := 6) rfl (by kernel_rfl) (by rfl) (fun K hK => ?_)
  go_simp
  refine (HN.out _ (Ext.refl _ _).drew.drew).mono ?_
  rintro e w2 ⟨v, rfl, p2, r2, e2⟩
  have e2' : Ext (fun b => b = rb) w w2 := ext1 (Ext.refl Nope w).drew.drew e2
  have p2' : OwnP w2 w.heap.size v c := p2
  have o2 : OwnG w2 base (.slice (some ⟨g, 0, none⟩) (gs.length + 1) cv) (gs ++ [(.slice ac q cc, a, vp)]) := own_ext HO.out e2' (fun g hg z => by have h1 := (World.ownsRow.lt HO.out g hg).1; have z : g = rb := z; omega)
  have k2 : OwnK w2 base (.slice ac q cc) cvs := own_ext HKK.out e2' (fun g hg z => by have h1 := (hap g hg).1; have z : g = rb := z; omega)
  have c2 : w2.cell? ⟨g, k * 8, none⟩ = some (.slice ac q cc) := by rw [← HK.out]; exact own_cell (by unfold OwnG at o2; exact o2) (gCells_at _ _ _ _)
  have H2 := toHid (show _ ∧ _ ∧ _ ∧ _ ∧ _ from ⟨r2, e2', p2', o2, k2⟩)
  clear r2 e2 e2' p2 p2' o2 k2 HN
  obtain ⟨av, avc, hvv, _⟩ := own_gen (show w2.ownsRow _ _ _ v c.length _ from H2.out.2.2.1)
  subst hvv
  try go_simp
  refine hK.out _ _ c2 (fun _ => ?_)
  clear hK K
  try simp only [Act.put, List.setIfInBounds_toArray, List.set_cons_zero, List.set_cons_succ]
  refine wpAnyT_one (i := 7) rfl (by kernel_rfl) (by rfl) (fun K hK => ?_)
  go_simp
  have hg2 : g < w2.heap.size := Nat.lt_of_lt_of_le hgb.2 H2.out.2.1.size
  have c3 : (w2.alloc (.cells #[Value.slice av c.length avc] 48)).cell? ⟨g, k * 8, none⟩ = some (.slice ac q cc) := by
    rw [World.cell?_of_block (w := w2) (heap_alloc_old w2 _ g hg2)]; exact c2
  refine hK.out _ _ c3 (fun _ => ?_)
  clear hK K
  try simp only [Act.put, List.setIfInBounds_toArray, List.set_cons_zero, List.set_cons_succ]
  refine wpAnyT_one (i := 8) rfl (by kernel_rfl) (by rfl) (fun K hK => ?_)
  obtain ⟨hi, hz0, hz1, hz2⟩ := HI.out
  have hown : w2.ownsRow base 48 1 (.slice ac q cc) q cvs := by
    have h := H2.out.2.2.2.2
    unfold OwnK at h
    rw [HQ.out] at h
    exact h
  refine wp_append_own _ (.tmp 42) (.tmp 45) 40 rfl base 48 i0 _ 1 24 Tryz.underlying40 hi hz0 hz1 hz2 rfl (by decide) _ _ _ rfl (hown.alloc _) ⟨w2.heap.size, 0, none⟩ 1 1 [.slice av c.length avc] rfl rfl (blk_at (heap_alloc_new w2 _)) (fun u hu => by rw [List.mem_singleton.1 hu]; rfl) (by unfold maxLen; omega) (by omega) (by have := H2.out.2.1.size; simp; omega) ?_
  intro v' w3 hown3 hgrow _
  obtain ⟨av', cv', hv', _⟩ := own_gen hown3
  subst hv'
  have e3 : Ext (fun b => (Value.slice ac q cc).ownBlock = some b) w2 w3 := Ext.grown ((Ext.refl _ _).alloc _) hgrow (fun g hg _ => hg)
  have r3 := H2.out.1.ext e3 (fun z => by have := (hap rb z).1; omega) (fun b hb z => (hBg b hb.2).2.2 z)
  have o3 : OwnG w3 base (.slice (some ⟨g, 0, none⟩) (gs.length + 1) cv) (gs ++ [(.slice ac q cc, a, vp)]) := own_ext H2.out.2.2.2.1 e3 (fun b hb z => (hap b z).2.2 (by simpa [Value.ownBlock] using hb.symm))
  have p3 : OwnP w3 w.heap.size (.slice av c.length avc) c := own_ext H2.out.2.2.1 e3 (fun b hb z => by have h1 := (hap b z).2.1; have h2 := (World.ownsRow.lt H2.out.2.2.1 b hb).1; omega)
  have c4 : w3.cell? ⟨g, k * 8, none⟩ = some (.slice ac q cc) := by rw [← HK.out]; exact own_cell (by unfold OwnG at o3; exact o3) (gCells_at _ _ _ _)
  have f4 : w3.frozen? ⟨g, k * 8, none⟩ = false := own_free (by unfold OwnG at o3; exact o3) _
  have H3 := toHid (show _ ∧ _ ∧ _ ∧ _ ∧ _ ∧ _ from ⟨r3, o3, p3, hown3, hgrow, e3⟩)
  clear hown3 hgrow e3 r3 o3 p3 hown hi hz0 hz1 hz2 c2 c3
  refine hK.out _ _ c4 (fun _ => ?_)
  clear hK K
  try simp only [Act.put, List.setIfInBounds_toArray, List.set_cons_zero, List.set_cons_succ]
  refine wpAnyT_done (by kernel_rfl) ⟨by kernel_rfl, ?_⟩
  simp only [List.drop_succ_cons, List.drop_zero]
  go_wp2
  go_end0
  have hn3 : (Value.slice ac q cc).ownBlock ≠ some rb := fun z => by have := (hap rb z).1; omega
  have e4 : Ext (fun b => b = g) w3 (w3.setCell ⟨g, k * 8, none⟩ (.slice av' (q + 1) cv')) := Ext.setCell (S := fun b => b = g) (Ext.refl _ _) g (k * 8) (fun _ => rfl) _
  obtain ⟨r3, o3, p3, hown3, hgrow, e3⟩ := H3.out
  have hk3 : OwnK w3 base (.slice av' (q + 1) cv') (cvs ++ [.slice av c.length avc]) := by
    unfold OwnK
    rw [List.length_append, HQ.out]
    exact hown3
  refine ⟨rfl, .slice av' (q + 1) cv', .slice av c.length avc, r3.ext (S := fun b => b = g) e4 (fun z => by have z : rb = g := z; omega) (fun b hb z => (hBg b hb.2).2.1 (by have z : b = g := z; rw [z]; simp [Value.ownBlock])), ?_, ?_, ?_, ?_⟩
  · have o3' : w3.ownsRow base 47 8 (.slice (some ⟨g, 0, none⟩) (gs.length + 1) cv) (gs.length + 1) (gCells (gs ++ [(.slice ac q cc, a, vp)])) := by
      have h := o3
      unfold OwnG at h
      rw [List.length_append, List.length_singleton] at h
      exact h
    have h := own_set o3' (k * 8) (.slice av' (q + 1) cv')
    rw [← HK.out, gCells_set, HK.out] at h
    unfold OwnG
    rw [List.length_append, List.length_singleton, HK.out]
    exact h
  · refine own_ext hk3 e4 (fun b hb z => ?_)
    have z : b = g := z
    subst z
    exact own_apart hk3 o3 (by decide) b hb (by simp [Value.ownBlock])
  · exact own_ext p3 e4 (fun b hb z => by have z : b = g := z; have := (World.ownsRow.lt p3 b hb).1; omega)
  · refine ((H2.out.2.1.mono (fun b z => Or.inl z)).trans (S := fun b => b = rb ∨ (Value.slice (some ⟨g, 0, none⟩) (gs.length + 1) cv).ownBlock = some b ∨ (Value.slice ac q cc).ownBlock = some b) (e3.mono (fun b z => Or.inr (Or.inr z))) (fun _ _ z => z)).trans (e4.mono (fun b z => Or.inr (Or.inl ?_))) (fun _ _ z => z)
    have z : b = g := z
    rw [z]
    simp [Value.ownBlock]
end Go.Proofs.YtajebdpalnpjdaaGreatDoor
namespace Go.Proofs.YtajebdpalnpjdaaGreatDoor
open Go.RowKit
attribute [local go_sem] alloc_drewN setCell_drewN

/-- What is deferred by reader.line, where it panics. -/
theorem catch_panics (b : Nat) (u : TypeId) (pv : Value) (older : List PanicEntry) (w : World) (x : Bool) (hc : w.cell? ⟨b, 0, none⟩ = some (.bool x)) (hz : w.frozen? ⟨b, 0, none⟩ = false) :
    CallsD Tryz.prog 17 #[ptr b] (.panicking ({ v := .iface u pv, recovered := false } :: older)) w fun e u' w' =>
      e = .returned (.tuple #[]) ∧ u' = .panicking ({ v := .iface u pv, recovered := true } :: older) ∧ w' = w.setCell ⟨b, 0, none⟩ (.bool false) := by
  refine callsD_of_wpS Tryz.func17 rfl fun c₀ cs hu => ?_
  apply wpS_seq
  apply wpS_region
  simp [wpOpsS, go_sem, recoverD, hu, Tryz.ntmps17, Exit.thenS]
  apply wpS_seq
  apply wpS_region
  simp [wpOpsS, go_sem, Tryz.ntmps17, Exit.thenS]
  refine wpS_cond (t := true) (by simp [Act.eval, Array.replicate]) ?_
  simp only [if_true]
  apply wpS_region
  simp [wpOpsS, go_sem, hc, hz, ptr, bodyPostS, results, Tryz.results17]
theorem catch_idle (b : Nat) (w : World) :
    CallsD Tryz.prog 17 #[ptr b] .returning w fun e u' w' => e = .returned (.tuple #[]) ∧ u' = .returning ∧ w' = w := by
  refine callsD_of_wpS Tryz.func17 rfl fun c₀ cs hu => ?_
  apply wpS_seq
  apply wpS_region
  simp [wpOpsS, go_sem, recoverD, hu, Tryz.ntmps17, Exit.thenS]
  apply wpS_seq
  apply wpS_region
  simp [wpOpsS, go_sem, Tryz.ntmps17, Exit.thenS]
  refine wpS_cond (t := false) (by simp [Act.eval, Array.replicate]) ?_
  simp only [Bool.false_eq_true, if_false]
  refine wpS_of_wp (wp_skip ?_)
  cases c₀
  simp_all [bodyPostS, results, Tryz.results17]
theorem RL.mono {w : World} {rb : Nat} {B B' : Nat → Prop} {cs : List Value} {ws : List ByteArray} (h : RL w rb B cs ws) (hB : ∀ b, b < w.heap.size → B b → B' b) : RL w rb B' cs ws := by
  obtain ⟨v, h1, h2⟩ := h
  exact ⟨v, h1, h2.mono fun b hb hA => ⟨hA.1, hB b hb hA.2⟩⟩
def gkinds : List ByteArray := [k_glyph, k_contour, k_anchor, k_hang, k_delta, k_program]
def gkindsText : ByteArray := ⟨#[103, 108, 121, 112, 104, 32, 99, 111, 110, 116, 111, 117, 114, 32, 97, 110, 99, 104, 111, 114, 32, 104, 97, 110, 103, 32, 100, 101, 108, 116, 97, 32, 112, 114, 111, 103, 114, 97, 109]⟩
theorem gkinds_fields : (Lib.fields gkindsText.data.toList).map (fun l => Value.string ⟨l.toArray⟩) = gkinds.map Value.string := by kernel_rfl
theorem gkinds_length : (Lib.fields gkindsText.data.toList).length = 6 := by kernel_rfl
theorem gkinds_ascii : ∀ (j : Nat) b, gkindsText.data.toList[j]? = some b → b.toNat < 128 := by
  intro j b h
  have h1 : ∀ c ∈ gkindsText.data.toList, c.toNat < 128 := by decide
  exact h1 b (List.mem_of_getElem? h)
/-- strings.Fields of the kinds of a glyph's lines -/
theorem fields_gkinds {w : World} (G : Glob w) : Calls Tryz.prog 23 #[.string gkindsText] w fun e w' => ∃ v, e = .returned v ∧ Rd (fun b => w.heap.size ≤ b) w' [v] (.l 1 (gkinds.map .s)) ∧ Ext Nope w w' := by
  refine (Tryz.strings_Fields_laid gkindsText w (by decide) gkinds_ascii G.spc).mono ?_
  rintro e w' ⟨rfl, rfl⟩
  rw [gkinds_length, gkinds_fields]
  exact ⟨_, rfl, Rd.strs (l := gkinds) (heap_alloc_new w _) (Nat.le_refl _) (by decide) 6 (by decide) (by decide), (Ext.refl _ _).alloc _⟩
theorem calls_by {P : Program} {f : FuncId} {args : Array Value} {w : World} {R : Ending → World → Prop} (h : ∀ R' : Ending → World → Prop, Hid (∀ e w', R e w' → R' e w') → Calls P f args w R') : Calls P f args w R := h R (fun _ _ z => z)
set_option maxRecDepth 100000 in
set_option maxHeartbeats 4000000 in
/-- reader.line, where it is a line -/
theorem line_good {w : World} (G : Glob w) {rb : Nat} {cs : List Value} {v0 : Value} (hb : 11 ≤ rb) (h : RB w rb cs v0) {kind : ByteArray} {ws : List ByteArray} (hc : ∀ p ∈ kind :: ws, (32 : UInt8) ∉ p.data.toList) (hs : (joinB 32 (kind :: ws)).size ≤ 100000)
    {before : ByteArray} (hbe : cs[11]? = some (.string before)) {fl : List ByteArray} (hF : ∀ W, Glob W → Calls Tryz.prog 22 #[.string kind] W (Follows W fl)) (hin : Lib.containsS fl before = true)
    {isG : Bool} (hk : Lib.containsS gkinds kind = isG) {Q : World → World → Prop}
    (hQ : ∀ W, Ext (fun b => b = rb) w W → RL W rb (fun b => w.heap.size < b ∧ b < W.heap.size) cs ws → Glob W → Calls Tryz.prog (if isG then 24 else 25) #[ptr rb, .string kind] W fun e w' => e = .returned (.tuple #[]) ∧ Q W w')
    (hQ2 : ∀ W w', Ext (fun b => b = rb) w W → Q W w' → (∃ B cs', RL w' rb B cs' []) ∧ ∃ S, Ext S W w' ∧ ¬ S w.heap.size) :
    Calls Tryz.prog 11 #[ptr rb, .string (joinB 32 (kind :: ws))] w fun e w' => e = .returned (.bool true) ∧ ∃ W w1, Ext (fun b => b = rb) w W ∧ Q W w1 ∧ w1.heap[w.heap.size]? = some (.cells #[.bool false] 4 (0, 0)) ∧ Ext (fun b => b = rb ∨ b = w.heap.size) w1 w' ∧ ∀ (B : Nat → Prop) (cs' : List Value), RL w1 rb B cs' [] → ∃ v, RB w' rb (cs'.set 11 (.string kind)) v := by
  have HG := toHid G
  have HC := toHid (show _ ∧ _ from ⟨hc, hs⟩)
  have HR := toHid h
  have HF := toHid hF
  have HQ := toHid hQ
  have HQ2 := toHid hQ2
  have HB := toHid hbe
  have hne : rb ≠ w.heap.size := Nat.ne_of_lt h.lt
  obtain ⟨jt, HJ⟩ : ∃ jt, Hid (joinB 32 (kind :: ws) = jt) := ⟨_, rfl⟩
  rw [HJ.out]
  clear G hc hs h hF hQ hQ2 hbe
  refine calls_by fun R' HR' => ?_
  go_enter_defers Tryz.func11, Tryz.ntmps11
  go_wp2_with fail
  rw [← HJ.out]
  have e1 : Ext Nope w (w.alloc (.cells #[.bool false] 4)) := (Ext.refl _ _).alloc _
  refine (split_calls (HG.out.ext0 e1) 32 (by simp) HC.out.1 HC.out.2).mono ?_
  rintro e w2 ⟨v, rfl, rd2, e2⟩
  have hsz1 : (w.alloc (.cells #[.bool false] 4)).heap.size = w.heap.size + 1 := by simp
  rw [hsz1] at rd2
  obtain ⟨a, cap, hv, _⟩ := rd2.len
  subst hv
  have b2 : RB w2 rb cs v0 := HR.out.ext (ext0 e1 e2) (fun z => z)
  have c2 : w2.cell? ⟨rb, 12, none⟩ = some v0 := b2.left
  have f2 : w2.frozen? ⟨rb, 12, none⟩ = false := b2.free 12
  have hz2 : w2.heap[w.heap.size]? = some (.cells #[.bool false] 4 (0, 0)) := (e2.block _ (by simp) (fun z => z)).trans (heap_alloc_new w _)
  have H2 := toHid (show _ ∧ _ ∧ _ ∧ _ from ⟨b2, rd2, ext0 e1 e2, hz2⟩)
  clear b2 rd2 e1 e2 hz2 hsz1
  go_wp2_with fail
  have r3 : RL (w2.setCell ⟨rb, 12, none⟩ (.slice a (ws.length + 1) cap)) rb (fun b => w.heap.size < b) cs (kind :: ws) := by
    refine ⟨_, H2.out.1.setLeft _, ?_⟩
    have hh := H2.out.2.1.ext (S := fun b => b = rb) (Ext.setCell (S := fun b => b = rb) (Ext.refl _ _) rb 12 (fun _ => rfl) (.slice a (ws.length + 1) cap)) (fun b hA z => by have z : b = rb := z; have := HR.out.lt; omega)
    refine (by simpa using hh : Rd _ _ [.slice a (ws.length + 1) cap] _).mono (fun b hb hA => ⟨fun z => ?_, ?_⟩)
    · have := HR.out.lt; omega
    · show w.heap.size < b; omega
  have e3 : Ext (fun b => b = rb) w (w2.setCell ⟨rb, 12, none⟩ (.slice a (ws.length + 1) cap)) := Ext.setCell (S := fun b => b = rb) (H2.out.2.2.1.mono (fun _ z => z.elim)) rb 12 (fun _ => rfl) _
  have hz3 : (w2.setCell ⟨rb, 12, none⟩ (.slice a (ws.length + 1) cap)).heap[w.heap.size]? = some (.cells #[.bool false] 4 (0, 0)) := ((Ext.setCell (S := fun b => b = rb) (Ext.refl Nope w2 |>.mono (fun _ z => z.elim)) rb 12 (fun _ => rfl) _).block _ (lt_of_heap H2.out.2.2.2) (fun z => hne z.symm)).trans H2.out.2.2.2
  have H3 := toHid (show _ ∧ _ ∧ _ from ⟨r3, e3, hz3⟩)
  clear r3 e3 hz3 H2 c2 f2
  refine (next_some H3.out.1).mono ?_
  rintro e w4 ⟨rfl, _, r4, e4⟩
  have e5 := H3.out.2.1.trans e4 (fun _ _ z => z)
  have hz4 : w4.heap[w.heap.size]? = some (.cells #[.bool false] 4 (0, 0)) := (e4.block _ (lt_of_heap H3.out.2.2) (fun z => hne z.symm)).trans H3.out.2.2
  have G4 := HG.out.ext e5 (fun g hg z => by have z : g = rb := z; omega)
  have c4 : w4.cell? ⟨rb, 11, none⟩ = some (.string before) := (r4.at (by omega)).1.trans HB.out
  have H4 := toHid (show _ ∧ _ ∧ _ ∧ _ from ⟨r4, e5, hz4, G4⟩)
  clear r4 e4 e5 hz4 G4 H3
  go_wp2_with fail
  refine wp_region_noPanic ?_
  refine wp_region_head 6 (fun w' => w'.cell? ⟨rb, 11, none⟩ = some (.string before)) (by kernel_rfl) (by kernel_rfl) (show w4.drew.cell? _ = _ from c4) (fun hO hHeld => ?_)
  refine wpAnyT_takeD (i := 0) (d := some 14) (v := ?_) hO rfl rfl (by kernel_rfl) (fun _ _ _ h => h) (Or.inl ⟨by rfl, ?_⟩) (by exact hHeld) ?_
  rotate_left
  · intro w' hSw
    go_simp
    try (with_reducible rfl)
  try simp only [Act.put, List.setIfInBounds_toArray, List.set_cons_zero, List.set_cons_succ]
  refine wpAnyT_takeD (i := 2) (d := some 16) (v := ?_) hO rfl rfl (by kernel_rfl) (fun _ _ _ h => h) (Or.inl ⟨by rfl, ?_⟩) (by exact hHeld) ?_
  rotate_left
  · intro w' hSw
    go_simp
    try (with_reducible rfl)
  try simp only [Act.put, List.setIfInBounds_toArray, List.set_cons_zero, List.set_cons_succ]
  refine wpAnyT_takeD (i := 3) (d := some 17) (v := ?_) hO rfl rfl (by kernel_rfl) (fun _ _ _ h => h) (Or.inl ⟨by rfl, ?_⟩) (by exact hHeld) ?_
  rotate_left
  · intro w' hSw
    go_simp
    try (with_reducible rfl)
  try simp only [Act.put, List.setIfInBounds_toArray, List.set_cons_zero, List.set_cons_succ]
  refine wpAnyT_takeD (i := 4) (d := some 18) (v := ?_) hO rfl rfl (by kernel_rfl) (fun _ _ _ h => h) (Or.inl ⟨by rfl, ?_⟩) (by exact hHeld) ?_
  rotate_left
  · intro w' hSw
    go_simp
    try (with_reducible rfl)
  try simp only [Act.put, List.setIfInBounds_toArray, List.set_cons_zero, List.set_cons_succ]
  refine wpAnyT_takeD (i := 5) (d := some 19) (v := ?_) hO rfl rfl (by kernel_rfl) (fun _ _ _ h => h) (Or.inl ⟨by rfl, ?_⟩) (by exact hHeld) ?_
  rotate_left
  · intro w' hSw
    go_simp
    try (with_reducible rfl)
  try simp only [Act.put, List.setIfInBounds_toArray, List.set_cons_zero, List.set_cons_succ]
  clear hHeld
  refine wpAnyT_one (i := 1) rfl (by kernel_rfl) (by rfl) (fun K hK => ?_)
  go_simp
  refine (HF.out _ (H4.out.2.2.2.ext0 (Ext.refl _ _).drew)).mono ?_
  rintro e w5 ⟨v, rfl, rd5, e5⟩
  have c5 : w5.cell? ⟨rb, 11, none⟩ = some (.string before) := ((H4.out.1.ext0 (ext0 (Ext.refl _ _).drew e5)).at (by omega)).1.trans HB.out
  have H5 := toHid (show _ ∧ _ from ⟨rd5, (ext0 (Ext.refl _ _).drew e5 : Ext Nope w4 w5)⟩)
  clear rd5 e5
  obtain ⟨av, avc, hv, _⟩ := H5.out.1.len
  subst hv
  try go_simp
  refine hK.out _ _ c5 (fun _ => ?_)
  clear hK K
  try simp only [Act.put, List.setIfInBounds_toArray, List.set_cons_zero, List.set_cons_succ]
  refine wpAnyT_done (by kernel_rfl) ⟨by kernel_rfl, ?_⟩
  simp only [List.drop_succ_cons, List.drop_zero]
  go_wp2_with fail
  have hrd5 : Rd (fun b => w4.drew.heap.size ≤ b) w5 [.slice av fl.length avc] (.l 1 (fl.map .s)) := by simpa using H5.out.1
  have hh := toHid (contains_calls hrd5 before)
  rw [hin] at hh
  clear hrd5
  refine hh.out.mono ?_
  rintro e w6 ⟨rfl, rfl⟩
  clear hh
  go_wp2_with fail
  refine (need_yes _).mono ?_
  rintro e w6 ⟨rfl, rfl⟩
  go_wp2_with fail
  refine NoPanic.normal ?_
  have H6 := toHid (show _ ∧ _ ∧ _ ∧ _ from ⟨H4.out.1.ext0 H5.out.2, (H4.out.2.1.trans (S := fun b => b = rb) (H5.out.2.mono (fun _ z => z.elim)) (fun _ _ z => z) : Ext (fun b => b = rb) w w5), (H5.out.2.block _ (lt_of_heap H4.out.2.2.1) (fun z => z)).trans H4.out.2.2.1, H4.out.2.2.2.ext0 H5.out.2⟩)
  clear H5 H4 c4 c5 hO
  go_wp2_with fail
  refine (fields_gkinds H6.out.2.2.2).mono ?_
  rintro e w6 ⟨v, rfl, rd6, e6⟩
  have H7 := toHid (show _ ∧ _ ∧ _ ∧ _ ∧ _ from ⟨H6.out.1.ext0 e6, (H6.out.2.1.trans (S := fun b => b = rb) (e6.mono (fun _ z => z.elim)) (fun _ _ z => z) : Ext (fun b => b = rb) w w6), (e6.block _ (lt_of_heap H6.out.2.2.1) (fun z => z)).trans H6.out.2.2.1, H6.out.2.2.2.ext0 e6, rd6⟩)
  clear rd6 e6 H6
  go_wp2_with fail
  have hh := toHid (contains_calls H7.out.2.2.2.2 kind)
  rw [hk] at hh
  refine hh.out.mono ?_
  rintro e w7 ⟨rfl, rfl⟩
  clear hh
  have HQ8 := toHid (HQ.out w6 H7.out.2.1 (H7.out.1.mono fun b hb hA => ⟨hA, hb⟩) H7.out.2.2.2.1)
  clear HQ hk
  cases isG
  all_goals
    simp only [Bool.false_eq_true, if_false, if_true] at HQ8
    go_wp2_with fail
    refine HQ8.out.mono ?_
    rintro e w8 ⟨rfl, q8⟩
    obtain ⟨⟨B8, cs8, r8⟩, T, e8, nT⟩ := HQ2.out w6 w8 H7.out.2.1 q8
    have hz8 : w8.heap[w.heap.size]? = some (.cells #[.bool false] 4 (0, 0)) := (e8.block _ (lt_of_heap H7.out.2.2.1) nT).trans H7.out.2.2.1
    obtain ⟨v8, b8, rd8⟩ := r8
    obtain ⟨a8, cap8, hv8, _⟩ := rd8.len
    subst hv8
    have c11 : ∃ u, w8.cell? ⟨rb, 11, none⟩ = some u := by
      rw [b8.cell (by omega)]
      exact ⟨_, List.getElem?_eq_getElem (by rw [b8.2]; omega)⟩
    obtain ⟨u11, c11⟩ := c11
    have f11 : w8.frozen? ⟨rb, 11, none⟩ = false := b8.free 11
    have b9 := b8.set (o := 11) (by omega) (.string kind)
    have c12 : (w8.setCell ⟨rb, 11, none⟩ (.string kind)).cell? ⟨rb, 12, none⟩ = some (.slice a8 0 cap8) := b9.left
    have e9 : Ext (fun b => b = rb) w8 (w8.setCell ⟨rb, 11, none⟩ (.string kind)) := Ext.setCell (S := fun b => b = rb) (Ext.refl _ _) rb 11 (fun _ => rfl) _
    have hz9 : (w8.setCell ⟨rb, 11, none⟩ (.string kind)).heap[w.heap.size]? = some (.cells #[.bool false] 4 (0, 0)) := (e9.block _ (lt_of_heap hz8) (fun z => hne z.symm)).trans hz8
    have c0 : (w8.setCell ⟨rb, 11, none⟩ (.string kind)).cell? ⟨w.heap.size, 0, none⟩ = some (.bool false) := by
      rw [show (⟨w.heap.size, 0, none⟩ : Addr) = at_ w.heap.size 0 from rfl, cell_of_blk hz9]; rfl
    have f0 : (w8.setCell ⟨rb, 11, none⟩ (.string kind)).frozen? ⟨w.heap.size, 0, none⟩ = false := free_of_blk hz9 0
    have H8 := toHid (show _ ∧ _ ∧ _ ∧ _ from ⟨q8, hz8, b9, e9⟩)
    clear q8 hz8 b9 e9 hz9 HQ8 b8 rd8
    go_wp2_with fail
    have e10 : Ext (fun b => b = rb ∨ b = w.heap.size) w8 ((w8.setCell ⟨rb, 11, none⟩ (.string kind)).setCell ⟨w.heap.size, 0, none⟩ (.bool true)) := Ext.setCell (S := fun b => b = rb ∨ b = w.heap.size) (H8.out.2.2.2.mono (fun _ z => Or.inl z)) w.heap.size 0 (fun _ => Or.inr rfl) _
    have e11 : Ext (fun b => b = w.heap.size) (w8.setCell ⟨rb, 11, none⟩ (.string kind)) ((w8.setCell ⟨rb, 11, none⟩ (.string kind)).setCell ⟨w.heap.size, 0, none⟩ (.bool true)) := Ext.setCell (S := fun b => b = w.heap.size) (Ext.refl _ _) w.heap.size 0 (fun _ => rfl) _
    have hz10 : ((w8.setCell ⟨rb, 11, none⟩ (.string kind)).setCell ⟨w.heap.size, 0, none⟩ (.bool true)).heap[w.heap.size]? = some (.cells #[.bool true] 4 (0, 0)) := by
      rw [show (⟨w.heap.size, 0, none⟩ : Addr) = at_ w.heap.size 0 from rfl, heap_setCell_eq _ w.heap.size 0 (.bool true) _ _ _ ((H8.out.2.2.2.block _ (lt_of_heap H8.out.2.1) (fun z => hne z.symm)).trans H8.out.2.1)]
      rfl
    have c00 : ((w8.setCell ⟨rb, 11, none⟩ (.string kind)).setCell ⟨w.heap.size, 0, none⟩ (.bool true)).cell? ⟨w.heap.size, 0, none⟩ = some (.bool true) := by
      rw [show (⟨w.heap.size, 0, none⟩ : Addr) = at_ w.heap.size 0 from rfl, cell_of_blk hz10]; rfl
    generalize ((w8.setCell ⟨rb, 11, none⟩ (.string kind)).setCell ⟨w.heap.size, 0, none⟩ (.bool true)) = w10 at *
    refine leaves_cons (f := 17) (args := #[ptr w.heap.size]) (by simp) (by simp [go_sem]) ?_
    refine (catch_idle w.heap.size _).mono ?_
    rintro e u' w'' ⟨rfl, rfl, rfl⟩
    simp [Leaves, settle, results, Tryz.results11, go_sem, c00]
    refine HR'.out _ _ ⟨rfl, w6, w8, H7.out.2.1, H8.out.1, H8.out.2.1, e10, fun B cs' r => ?_⟩
    obtain ⟨v, b, _⟩ := r
    exact ⟨v, ((b.set (o := 11) (by omega) (.string kind))).ext e11 hne⟩
set_option maxRecDepth 100000 in
set_option maxHeartbeats 4000000 in
/-- reader.line, where what its kind reads gives up -/
theorem line_bad {w : World} (G : Glob w) {rb : Nat} {cs : List Value} {v0 : Value} (hb : 11 ≤ rb) (h : RB w rb cs v0) {kind : ByteArray} {ws : List ByteArray} (hc : ∀ p ∈ kind :: ws, (32 : UInt8) ∉ p.data.toList) (hs : (joinB 32 (kind :: ws)).size ≤ 100000)
    {before : ByteArray} (hbe : cs[11]? = some (.string before)) {fl : List ByteArray} (hF : ∀ W, Glob W → Calls Tryz.prog 22 #[.string kind] W (Follows W fl)) (hin : Lib.containsS fl before = true)
    {isG : Bool} (hk : Lib.containsS gkinds kind = isG) {T : Nat → Prop} (hTr : T rb) (hTw : ¬ T w.heap.size)
    (hQ : ∀ W, Ext (fun b => b = rb) w W → RL W rb (fun b => w.heap.size < b ∧ b < W.heap.size) cs ws → Glob W → Calls Tryz.prog (if isG then 24 else 25) #[ptr rb, .string kind] W fun e w' => e = givenUp ∧ Ext T W w') :
    Calls Tryz.prog 11 #[ptr rb, .string (joinB 32 (kind :: ws))] w fun e w' => e = .returned (.bool false) ∧ Ext T w w' := by
  have HG := toHid G
  have HC := toHid (show _ ∧ _ from ⟨hc, hs⟩)
  have HR := toHid h
  have HF := toHid hF
  have HQ := toHid hQ
  have HB := toHid hbe
  have hne : rb ≠ w.heap.size := Nat.ne_of_lt h.lt
  obtain ⟨jt, HJ⟩ : ∃ jt, Hid (joinB 32 (kind :: ws) = jt) := ⟨_, rfl⟩
  rw [HJ.out]
  clear G hc hs h hF hQ hbe
  refine calls_by fun R' HR' => ?_
  go_enter_defers Tryz.func11, Tryz.ntmps11
  go_wp2_with fail
  rw [← HJ.out]
  have e1 : Ext Nope w (w.alloc (.cells #[.bool false] 4)) := (Ext.refl _ _).alloc _
  refine (split_calls (HG.out.ext0 e1) 32 (by simp) HC.out.1 HC.out.2).mono ?_
  rintro e w2 ⟨v, rfl, rd2, e2⟩
  have hsz1 : (w.alloc (.cells #[.bool false] 4)).heap.size = w.heap.size + 1 := by simp
  rw [hsz1] at rd2
  obtain ⟨a, cap, hv, _⟩ := rd2.len
  subst hv
  have b2 : RB w2 rb cs v0 := HR.out.ext (ext0 e1 e2) (fun z => z)
  have c2 : w2.cell? ⟨rb, 12, none⟩ = some v0 := b2.left
  have f2 : w2.frozen? ⟨rb, 12, none⟩ = false := b2.free 12
  have hz2 : w2.heap[w.heap.size]? = some (.cells #[.bool false] 4 (0, 0)) := (e2.block _ (by simp) (fun z => z)).trans (heap_alloc_new w _)
  have H2 := toHid (show _ ∧ _ ∧ _ ∧ _ from ⟨b2, rd2, ext0 e1 e2, hz2⟩)
  clear b2 rd2 e1 e2 hz2 hsz1
  go_wp2_with fail
  have r3 : RL (w2.setCell ⟨rb, 12, none⟩ (.slice a (ws.length + 1) cap)) rb (fun b => w.heap.size < b) cs (kind :: ws) := by
    refine ⟨_, H2.out.1.setLeft _, ?_⟩
    have hh := H2.out.2.1.ext (S := fun b => b = rb) (Ext.setCell (S := fun b => b = rb) (Ext.refl _ _) rb 12 (fun _ => rfl) (.slice a (ws.length + 1) cap)) (fun b hA z => by have z : b = rb := z; have := HR.out.lt; omega)
    refine (by simpa using hh : Rd _ _ [.slice a (ws.length + 1) cap] _).mono (fun b hb hA => ⟨fun z => ?_, ?_⟩)
    · have := HR.out.lt; omega
    · show w.heap.size < b; omega
  have e3 : Ext (fun b => b = rb) w (w2.setCell ⟨rb, 12, none⟩ (.slice a (ws.length + 1) cap)) := Ext.setCell (S := fun b => b = rb) (H2.out.2.2.1.mono (fun _ z => z.elim)) rb 12 (fun _ => rfl) _
  have hz3 : (w2.setCell ⟨rb, 12, none⟩ (.slice a (ws.length + 1) cap)).heap[w.heap.size]? = some (.cells #[.bool false] 4 (0, 0)) := ((Ext.setCell (S := fun b => b = rb) (Ext.refl Nope w2 |>.mono (fun _ z => z.elim)) rb 12 (fun _ => rfl) _).block _ (lt_of_heap H2.out.2.2.2) (fun z => hne z.symm)).trans H2.out.2.2.2
  have H3 := toHid (show _ ∧ _ ∧ _ from ⟨r3, e3, hz3⟩)
  clear r3 e3 hz3 H2 c2 f2
  refine (next_some H3.out.1).mono ?_
  rintro e w4 ⟨rfl, _, r4, e4⟩
  have e5 := H3.out.2.1.trans e4 (fun _ _ z => z)
  have hz4 : w4.heap[w.heap.size]? = some (.cells #[.bool false] 4 (0, 0)) := (e4.block _ (lt_of_heap H3.out.2.2) (fun z => hne z.symm)).trans H3.out.2.2
  have G4 := HG.out.ext e5 (fun g hg z => by have z : g = rb := z; omega)
  have c4 : w4.cell? ⟨rb, 11, none⟩ = some (.string before) := (r4.at (by omega)).1.trans HB.out
  have H4 := toHid (show _ ∧ _ ∧ _ ∧ _ from ⟨r4, e5, hz4, G4⟩)
  clear r4 e4 e5 hz4 G4 H3
  go_wp2_with fail
  refine wp_region_noPanic ?_
  refine wp_region_head 6 (fun w' => w'.cell? ⟨rb, 11, none⟩ = some (.string before)) (by kernel_rfl) (by kernel_rfl) (show w4.drew.cell? _ = _ from c4) (fun hO hHeld => ?_)
  refine wpAnyT_takeD (i := 0) (d := some 14) (v := ?_) hO rfl rfl (by kernel_rfl) (fun _ _ _ h => h) (Or.inl ⟨by rfl, ?_⟩) (by exact hHeld) ?_
  rotate_left
  · intro w' hSw
    go_simp
    try (with_reducible rfl)
  try simp only [Act.put, List.setIfInBounds_toArray, List.set_cons_zero, List.set_cons_succ]
  refine wpAnyT_takeD (i := 2) (d := some 16) (v := ?_) hO rfl rfl (by kernel_rfl) (fun _ _ _ h => h) (Or.inl ⟨by rfl, ?_⟩) (by exact hHeld) ?_
  rotate_left
  · intro w' hSw
    go_simp
    try (with_reducible rfl)
  try simp only [Act.put, List.setIfInBounds_toArray, List.set_cons_zero, List.set_cons_succ]
  refine wpAnyT_takeD (i := 3) (d := some 17) (v := ?_) hO rfl rfl (by kernel_rfl) (fun _ _ _ h => h) (Or.inl ⟨by rfl, ?_⟩) (by exact hHeld) ?_
  rotate_left
  · intro w' hSw
    go_simp
    try (with_reducible rfl)
  try simp only [Act.put, List.setIfInBounds_toArray, List.set_cons_zero, List.set_cons_succ]
  refine wpAnyT_takeD (i := 4) (d := some 18) (v := ?_) hO rfl rfl (by kernel_rfl) (fun _ _ _ h => h) (Or.inl ⟨by rfl, ?_⟩) (by exact hHeld) ?_
  rotate_left
  · intro w' hSw
    go_simp
    try (with_reducible rfl)
  try simp only [Act.put, List.setIfInBounds_toArray, List.set_cons_zero, List.set_cons_succ]
  refine wpAnyT_takeD (i := 5) (d := some 19) (v := ?_) hO rfl rfl (by kernel_rfl) (fun _ _ _ h => h) (Or.inl ⟨by rfl, ?_⟩) (by exact hHeld) ?_
  rotate_left
  · intro w' hSw
    go_simp
    try (with_reducible rfl)
  try simp only [Act.put, List.setIfInBounds_toArray, List.set_cons_zero, List.set_cons_succ]
  clear hHeld
  refine wpAnyT_one (i := 1) rfl (by kernel_rfl) (by rfl) (fun K hK => ?_)
  go_simp
  refine (HF.out _ (H4.out.2.2.2.ext0 (Ext.refl _ _).drew)).mono ?_
  rintro e w5 ⟨v, rfl, rd5, e5⟩
  have c5 : w5.cell? ⟨rb, 11, none⟩ = some (.string before) := ((H4.out.1.ext0 (ext0 (Ext.refl _ _).drew e5)).at (by omega)).1.trans HB.out
  have H5 := toHid (show _ ∧ _ from ⟨rd5, (ext0 (Ext.refl _ _).drew e5 : Ext Nope w4 w5)⟩)
  clear rd5 e5
  obtain ⟨av, avc, hv, _⟩ := H5.out.1.len
  subst hv
  try go_simp
  refine hK.out _ _ c5 (fun _ => ?_)
  clear hK K
  try simp only [Act.put, List.setIfInBounds_toArray, List.set_cons_zero, List.set_cons_succ]
  refine wpAnyT_done (by kernel_rfl) ⟨by kernel_rfl, ?_⟩
  simp only [List.drop_succ_cons, List.drop_zero]
  go_wp2_with fail
  have hrd5 : Rd (fun b => w4.drew.heap.size ≤ b) w5 [.slice av fl.length avc] (.l 1 (fl.map .s)) := by simpa using H5.out.1
  have hh := toHid (contains_calls hrd5 before)
  rw [hin] at hh
  clear hrd5
  refine hh.out.mono ?_
  rintro e w6 ⟨rfl, rfl⟩
  clear hh
  go_wp2_with fail
  refine (need_yes _).mono ?_
  rintro e w6 ⟨rfl, rfl⟩
  go_wp2_with fail
  refine NoPanic.normal ?_
  have H6 := toHid (show _ ∧ _ ∧ _ ∧ _ from ⟨H4.out.1.ext0 H5.out.2, (H4.out.2.1.trans (S := fun b => b = rb) (H5.out.2.mono (fun _ z => z.elim)) (fun _ _ z => z) : Ext (fun b => b = rb) w w5), (H5.out.2.block _ (lt_of_heap H4.out.2.2.1) (fun z => z)).trans H4.out.2.2.1, H4.out.2.2.2.ext0 H5.out.2⟩)
  clear H5 H4 c4 c5 hO
  go_wp2_with fail
  refine (fields_gkinds H6.out.2.2.2).mono ?_
  rintro e w6 ⟨v, rfl, rd6, e6⟩
  have H7 := toHid (show _ ∧ _ ∧ _ ∧ _ ∧ _ from ⟨H6.out.1.ext0 e6, (H6.out.2.1.trans (S := fun b => b = rb) (e6.mono (fun _ z => z.elim)) (fun _ _ z => z) : Ext (fun b => b = rb) w w6), (e6.block _ (lt_of_heap H6.out.2.2.1) (fun z => z)).trans H6.out.2.2.1, H6.out.2.2.2.ext0 e6, rd6⟩)
  clear rd6 e6 H6
  go_wp2_with fail
  have hh := toHid (contains_calls H7.out.2.2.2.2 kind)
  rw [hk] at hh
  refine hh.out.mono ?_
  rintro e w7 ⟨rfl, rfl⟩
  clear hh
  have HQ8 := toHid (HQ.out w6 H7.out.2.1 (H7.out.1.mono fun b hb hA => ⟨hA, hb⟩) H7.out.2.2.2.1)
  clear HQ hk
  cases isG
  all_goals
    simp only [Bool.false_eq_true, if_false, if_true] at HQ8
    go_wp2_with fail
    refine HQ8.out.mono ?_
    rintro e w8 ⟨rfl, e8⟩
    have hz8 : w8.heap[w.heap.size]? = some (.cells #[.bool false] 4 (0, 0)) := (e8.block _ (lt_of_heap H7.out.2.2.1) hTw).trans H7.out.2.2.1
    have c0 : w8.cell? ⟨w.heap.size, 0, none⟩ = some (.bool false) := by
      rw [show (⟨w.heap.size, 0, none⟩ : Addr) = at_ w.heap.size 0 from rfl, cell_of_blk hz8]; rfl
    have f0 : w8.frozen? ⟨w.heap.size, 0, none⟩ = false := free_of_blk hz8 0
    have hz10 : (w8.setCell ⟨w.heap.size, 0, none⟩ (.bool false)).heap[w.heap.size]? = some (.cells #[.bool false] 4 (0, 0)) := by
      rw [show (⟨w.heap.size, 0, none⟩ : Addr) = at_ w.heap.size 0 from rfl, heap_setCell_eq _ w.heap.size 0 (.bool false) _ _ _ hz8]
      rfl
    have c00 : (w8.setCell ⟨w.heap.size, 0, none⟩ (.bool false)).cell? ⟨w.heap.size, 0, none⟩ = some (.bool false) := by
      rw [show (⟨w.heap.size, 0, none⟩ : Addr) = at_ w.heap.size 0 from rfl, cell_of_blk hz10]; rfl
    have e10 : Ext T w (w8.setCell ⟨w.heap.size, 0, none⟩ (.bool false)) := Ext.setCell (S := T) ((H7.out.2.1.mono (fun b z => by have z : b = rb := z; rw [z]; exact hTr)).trans e8 (fun _ _ z => z)) w.heap.size 0 (fun z => absurd z (Nat.lt_irrefl _)) _
    go_wp2_with fail
    refine leaves_cons (f := 17) (args := #[ptr w.heap.size]) (by simp) (by simp [go_sem]) ?_
    refine (catch_panics w.heap.size _ _ [] _ false c0 f0).mono ?_
    rintro e u' w'' ⟨rfl, rfl, rfl⟩
    simp [Leaves, settle, results, Tryz.results11, go_sem, c00]
    exact HR'.out _ _ ⟨rfl, e10⟩
end Go.Proofs.YtajebdpalnpjdaaGreatDoor
