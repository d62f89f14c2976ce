/-
  font.CheckCore.
  font.CheckCore, whole.
  font.Check.
-/
import Derived.Test.YtajebdpalnpjdaaGreatDoorM12
namespace Go.Proofs.YtajebdpalnpjdaaGreatDoor
open Go.RowKit
attribute [local go_sem] alloc_drewN setCell_drewN

theorem Checks.none {f : FuncId} {caps : Array Value} {w : World} {elem : Nat → World → Value → Prop} {p : Nat → Int} : Checks f caps w 0 elem p := fun _ _ _ hk => absurd hk (Nat.not_lt_zero _)
theorem ent_axesOf : Enters 144 := enters_of Tryz.func144 (by kernel_rfl) rfl
theorem ent_chars : Enters 152 := enters_of Tryz.func152 (by kernel_rfl) rfl
theorem ent_pairs : Enters 156 := enters_of Tryz.func156 (by kernel_rfl) rfl
theorem ent_heads : Enters 158 := enters_of Tryz.func158 (by kernel_rfl) rfl
theorem ent_regions : Enters 149 := enters_of Tryz.func149 (by kernel_rfl) rfl
set_option maxHeartbeats 1000000 in
/-- font.axesOf -/
theorem axes_calls {A : Nat → Prop} (f : CV) {w : World} : Calls Tryz.prog 75 #[.agg f.cells] w fun e w' => e = .returned (.int .i64 0) ∧ Ext Nope w w' := by
  obtain ⟨ver, cnt, a5, n5, k5, a7, n7, k7⟩ := f
  have hz1 := heap_alloc_new w (.cells #[.string n_a, .int .i64 ver, .slice none 0 0, .slice none 0 0, .int .i64 cnt, .slice a5 n5 k5, .slice none 0 0, .slice a7 n7 k7, .string ⟨#[]⟩] 32)
  have e1 : Ext Nope w (w.alloc (.cells #[.string n_a, .int .i64 ver, .slice none 0 0, .slice none 0 0, .int .i64 cnt, .slice a5 n5 k5, .slice none 0 0, .slice a7 n7 k7, .string ⟨#[]⟩] 32)) := (Ext.refl _ _).alloc _
  have H1 := toHid (show _ ∧ _ from ⟨e1, hz1⟩)
  clear e1 hz1
  have HK := toHid (fun W => each_axes (A := A) (w := W) (v := .slice none 0 0) (xs := []) (caps := #[ptr w.heap.size]) (p := fun _ => 0) ent_axesOf (Rd.empty _) Checks.none)
  go_enter Tryz.func75, Tryz.ntmps75
  go_wp2_with fail
  refine (HK.out _).mono ?_
  rintro e w2 ⟨rfl, e2⟩
  have H2 := toHid (ext0 H1.out.1 e2)
  clear e2
  go_wp2_with fail
  go_ret
  exact ⟨rfl, H2.out⟩
set_option maxHeartbeats 1000000 in
/-- font.pairs -/
theorem pairs_calls {A : Nat → Prop} (f : CV) {w : World} : Calls Tryz.prog 78 #[.agg f.cells] w fun e w' => e = .returned (.int .i64 0) ∧ Ext Nope w w' := by
  obtain ⟨ver, cnt, a5, n5, k5, a7, n7, k7⟩ := f
  have hz1 := heap_alloc_new w (.cells #[.string n_a, .int .i64 ver, .slice none 0 0, .slice none 0 0, .int .i64 cnt, .slice a5 n5 k5, .slice none 0 0, .slice a7 n7 k7, .string ⟨#[]⟩] 32)
  have e1 : Ext Nope w (w.alloc (.cells #[.string n_a, .int .i64 ver, .slice none 0 0, .slice none 0 0, .int .i64 cnt, .slice a5 n5 k5, .slice none 0 0, .slice a7 n7 k7, .string ⟨#[]⟩] 32)) := (Ext.refl _ _).alloc _
  have H1 := toHid (show _ ∧ _ from ⟨e1, hz1⟩)
  clear e1 hz1
  have HK := toHid (fun W => each_pairs (A := A) (w := W) (v := .slice none 0 0) (xs := []) (caps := #[ptr w.heap.size]) (p := fun _ => 0) ent_pairs (Rd.empty _) Checks.none)
  go_enter Tryz.func78, Tryz.ntmps78
  go_wp2_with fail
  refine (HK.out _).mono ?_
  rintro e w2 ⟨rfl, e2⟩
  have H2 := toHid (ext0 H1.out.1 e2)
  clear e2
  go_wp2_with fail
  go_ret
  exact ⟨rfl, H2.out⟩
set_option maxHeartbeats 1000000 in
/-- font.regions -/
theorem regions_calls {A : Nat → Prop} (f : CV) {w : World} : Calls Tryz.prog 76 #[.agg f.cells] w fun e w' => e = .returned (.int .i64 0) ∧ Ext Nope w w' := by
  obtain ⟨ver, cnt, a5, n5, k5, a7, n7, k7⟩ := f
  have hz1 := heap_alloc_new w (.cells #[.string n_a, .int .i64 ver, .slice none 0 0, .slice none 0 0, .int .i64 cnt, .slice a5 n5 k5, .slice none 0 0, .slice a7 n7 k7, .string ⟨#[]⟩] 32)
  have e1 : Ext Nope w (w.alloc (.cells #[.string n_a, .int .i64 ver, .slice none 0 0, .slice none 0 0, .int .i64 cnt, .slice a5 n5 k5, .slice none 0 0, .slice a7 n7 k7, .string ⟨#[]⟩] 32)) := (Ext.refl _ _).alloc _
  have H1 := toHid (show _ ∧ _ from ⟨e1, hz1⟩)
  clear e1 hz1
  have HK := toHid (fun W => has_regions (A := A) (w := W) (v := .slice none 0 0) (xs := []) (caps := #[ptr w.heap.size]) (p := fun _ => false) ent_regions (Rd.empty _) (fun _ _ _ hk => absurd hk (Nat.not_lt_zero _)))
  go_enter Tryz.func76, Tryz.ntmps76
  go_wp2_with fail
  refine (HK.out _).mono ?_
  rintro e w2 ⟨rfl, e2⟩
  have H2 := toHid (ext0 H1.out.1 e2)
  clear e2
  go_wp2_with fail
  go_ret
  exact ⟨rfl, H2.out⟩
set_option maxHeartbeats 1000000 in
/-- font.chars -/
theorem chars_calls {A : Nat → Prop} (f : CV) {w : World} {xs : List Dat} {p : Nat → Int} (hr : Rd A w [.slice f.a5 f.n5 f.c5] (.l 4 xs)) (hs : ∀ W bb, Ext Nope w W → W.heap[bb]? = some (.cells f.cells 32 (0, 0)) → Checks 152 #[ptr bb] W xs.length (ElS A xs) p) : Calls Tryz.prog 77 #[.agg f.cells] w fun e w' => e = .returned (.int .i64 (firstE p xs.length)) ∧ Ext Nope w w' := by
  obtain ⟨ver, cnt, a5, n5, k5, a7, n7, k7⟩ := f
  have hz1 := heap_alloc_new w (.cells #[.string n_a, .int .i64 ver, .slice none 0 0, .slice none 0 0, .int .i64 cnt, .slice a5 n5 k5, .slice none 0 0, .slice a7 n7 k7, .string ⟨#[]⟩] 32)
  have e1 : Ext Nope w (w.alloc (.cells #[.string n_a, .int .i64 ver, .slice none 0 0, .slice none 0 0, .int .i64 cnt, .slice a5 n5 k5, .slice none 0 0, .slice a7 n7 k7, .string ⟨#[]⟩] 32)) := (Ext.refl _ _).alloc _
  have hb : ∀ W, W = w.alloc (.cells #[.string n_a, .int .i64 ver, .slice none 0 0, .slice none 0 0, .int .i64 cnt, .slice a5 n5 k5, .slice none 0 0, .slice a7 n7 k7, .string ⟨#[]⟩] 32) → _ := fun W hW => each_chars (w := W) (caps := #[ptr w.heap.size]) ent_chars ((show Rd A w [.slice a5 n5 k5] _ from hr).ext0 (by rw [hW]; exact e1)) (hs _ _ (by rw [hW]; exact e1) (by rw [hW]; exact hz1))
  have HK := toHid (hb _ rfl)
  have H1 := toHid (show _ ∧ _ from ⟨e1, hz1⟩)
  clear e1 hz1 hb hr hs
  go_enter Tryz.func77, Tryz.ntmps77
  go_wp2_with fail
  refine HK.out.mono ?_
  rintro e w2 ⟨rfl, e2⟩
  have H2 := toHid (ext0 H1.out.1 e2)
  clear e2
  go_wp2_with fail
  go_ret
  exact ⟨rfl, H2.out⟩
set_option maxHeartbeats 1000000 in
/-- font.heads -/
theorem heads_calls {A : Nat → Prop} (f : CV) {w : World} {xs : List Dat} {p : Nat → Int} (hr : Rd A w [.slice f.a7 f.n7 f.c7] (.l 2 xs)) (hs : ∀ W bb, Ext Nope w W → W.heap[bb]? = some (.cells f.cells 32 (0, 0)) → Checks 158 #[ptr bb] W xs.length (ElS A xs) p) : Calls Tryz.prog 79 #[.agg f.cells] w fun e w' => e = .returned (.int .i64 (firstE p xs.length)) ∧ Ext Nope w w' := by
  obtain ⟨ver, cnt, a5, n5, k5, a7, n7, k7⟩ := f
  have hz1 := heap_alloc_new w (.cells #[.string n_a, .int .i64 ver, .slice none 0 0, .slice none 0 0, .int .i64 cnt, .slice a5 n5 k5, .slice none 0 0, .slice a7 n7 k7, .string ⟨#[]⟩] 32)
  have e1 : Ext Nope w (w.alloc (.cells #[.string n_a, .int .i64 ver, .slice none 0 0, .slice none 0 0, .int .i64 cnt, .slice a5 n5 k5, .slice none 0 0, .slice a7 n7 k7, .string ⟨#[]⟩] 32)) := (Ext.refl _ _).alloc _
  have hb : ∀ W, W = w.alloc (.cells #[.string n_a, .int .i64 ver, .slice none 0 0, .slice none 0 0, .int .i64 cnt, .slice a5 n5 k5, .slice none 0 0, .slice a7 n7 k7, .string ⟨#[]⟩] 32) → _ := fun W hW => each_heads (w := W) (caps := #[ptr w.heap.size]) ent_heads ((show Rd A w [.slice a7 n7 k7] _ from hr).ext0 (by rw [hW]; exact e1)) (hs _ _ (by rw [hW]; exact e1) (by rw [hW]; exact hz1))
  have HK := toHid (hb _ rfl)
  have H1 := toHid (show _ ∧ _ from ⟨e1, hz1⟩)
  clear e1 hz1 hb hr hs
  go_enter Tryz.func79, Tryz.ntmps79
  go_wp2_with fail
  refine HK.out.mono ?_
  rintro e w2 ⟨rfl, e2⟩
  have H2 := toHid (ext0 H1.out.1 e2)
  clear e2
  go_wp2_with fail
  go_ret
  exact ⟨rfl, H2.out⟩
set_option maxHeartbeats 1000000 in
/-- font.root where there is none -/
theorem root_calls (f : CV) {w : World} : Calls Tryz.prog 80 #[.agg f.cells] w fun e w' => e = .returned (.int .i64 0) ∧ Ext Nope w w' := by
  obtain ⟨ver, cnt, a5, n5, k5, a7, n7, k7⟩ := f
  go_enter Tryz.func80, Tryz.ntmps80
  go_wp2_with fail
  go_ret
  exact ⟨rfl, (Ext.refl _ _).alloc _⟩
end Go.Proofs.YtajebdpalnpjdaaGreatDoor
namespace Go.Proofs.YtajebdpalnpjdaaGreatDoor
open Go.RowKit
attribute [local go_sem] alloc_drewN setCell_drewN

theorem ent_core1 : Enters 82 := enters_of Tryz.func82 (by kernel_rfl) rfl
/-- What is asked of a core. -/
structure CoreOK (A : Nat → Prop) (w : World) (f : CV) (xsC xsH : List Dat) (pC pH : Nat → Int) : Prop where
  rdC : Rd A w [.slice f.a5 f.n5 f.c5] (.l 4 xsC)
  rdH : Rd A w [.slice f.a7 f.n7 f.c7] (.l 2 xsH)
  ckC : ∀ W bb, Ext Nope w W → W.heap[bb]? = some (.cells f.cells 32 (0, 0)) → Checks 152 #[ptr bb] W xsC.length (ElS A xsC) pC
  ckH : ∀ W bb, Ext Nope w W → W.heap[bb]? = some (.cells f.cells 32 (0, 0)) → Checks 158 #[ptr bb] W xsH.length (ElS A xsH) pH
theorem CoreOK.ext0 {A : Nat → Prop} {w W : World} {f : CV} {xsC xsH : List Dat} {pC pH : Nat → Int} (h : CoreOK A w f xsC xsH pC pH) (e : Ext Nope w W) : CoreOK A W f xsC xsH pC pH :=
  ⟨h.rdC.ext0 e, h.rdH.ext0 e, fun W' bb e' hb => h.ckC W' bb (Go.Proofs.YtajebdpalnpjdaaGreatDoor.ext0 e e') hb, fun W' bb e' hb => h.ckH W' bb (Go.Proofs.YtajebdpalnpjdaaGreatDoor.ext0 e e') hb⟩
def coreFuncs : List FuncId := [74, 75, 76, 77, 78, 79, 80]
def coreErrs (f : CV) (eC eH : Int) : List Int := [headErr f, 0, 0, eC, 0, eH, 0]
def coreErr (f : CV) (eC eH : Int) : Int := if headErr f ≠ 0 then headErr f else if eC ≠ 0 then eC else eH
theorem core_first (f : CV) (eC eH : Int) : firstE (fun k => (coreErrs f eC eH).getD k 0) 7 = coreErr f eC eH := by
  simp only [firstE, coreErrs, List.getD_cons_zero, List.getD_cons_succ, coreErr]
  by_cases h1 : headErr f = 0 <;> by_cases h2 : eC = 0 <;> simp [h1, h2] <;> exact fun h => h.symm
theorem core_one {A : Nat → Prop} {w : World} {f : CV} {xsC xsH : List Dat} {pC pH : Nat → Int} (h : CoreOK A w f xsC xsH pC pH) {k : Nat} {F : FuncId} (hk : coreFuncs[k]? = some F) : Calls Tryz.prog F #[.agg f.cells] w fun e w' => e = .returned (.int .i64 ((coreErrs f (firstE pC xsC.length) (firstE pH xsH.length)).getD k 0)) ∧ Ext Nope w w' := by
  match k, hk with
  | 0, hk => cases hk; exact head_calls f w
  | 1, hk => cases hk; exact axes_calls (A := A) f
  | 2, hk => cases hk; exact regions_calls (A := A) f
  | 3, hk => cases hk; exact chars_calls f h.rdC h.ckC
  | 4, hk => cases hk; exact pairs_calls (A := A) f
  | 5, hk => cases hk; exact heads_calls f h.rdH h.ckH
  | 6, hk => cases hk; exact root_calls f
  | k + 7, hk => simp [coreFuncs] at hk
theorem core_enters {k : Nat} {F : FuncId} (hk : coreFuncs[k]? = some F) : Enters F := by
  match k, hk with
  | 0, hk => cases hk; exact enters_of Tryz.func74 (by kernel_rfl) rfl
  | 1, hk => cases hk; exact enters_of Tryz.func75 (by kernel_rfl) rfl
  | 2, hk => cases hk; exact enters_of Tryz.func76 (by kernel_rfl) rfl
  | 3, hk => cases hk; exact enters_of Tryz.func77 (by kernel_rfl) rfl
  | 4, hk => cases hk; exact enters_of Tryz.func78 (by kernel_rfl) rfl
  | 5, hk => cases hk; exact enters_of Tryz.func79 (by kernel_rfl) rfl
  | 6, hk => cases hk; exact enters_of Tryz.func80 (by kernel_rfl) rfl
  | k + 7, hk => simp [coreFuncs] at hk
/-- The closure of font.CheckCore -/
theorem core_closure {w : World} {f : CV} {bb : Nat} (hz : w.heap[bb]? = some (.cells f.cells 32 (0, 0))) {F : FuncId} (he : Enters F) (k : Nat) {r : Int} (hF : Calls Tryz.prog F #[.agg f.cells] w fun e w' => e = .returned (.int .i64 r) ∧ Ext Nope w w') :
    Calls Tryz.prog 82 #[.int .i64 k, .func (.func F) #[] #[], ptr bb] w fun e w' => e = .returned (.int .i64 r) ∧ Ext Nope w w' := by
  obtain ⟨ver, cnt, a5, n5, k5, a7, n7, k7⟩ := f
  have HF := toHid hF
  obtain ⟨c0, c1, c2, c3, c4, c5, c6, c7, c8⟩ := core_cells hz
  clear hF hz
  go_enter Tryz.func82, Tryz.ntmps82
  go_wp2_with fail
  refine HF.out.mono ?_
  rintro e w2 ⟨rfl, e2⟩
  go_wp2
  go_ret
  exact ⟨rfl, e2⟩
theorem Rd.funcs {A : Nat → Prop} {w : World} {b T : Nat} {fz : Nat × Nat} {l : List FuncId} (h : w.heap[b]? = some (.cells (l.map fun F => Value.func (.func F) #[] #[]).toArray T fz)) (hA : A b) (hl : l.length ≤ 1000) : Rd A w [.slice (some ⟨b, 0, none⟩) l.length l.length] (.l 1 (l.map fun F => .raw (.func (.func F) #[] #[]))) := by
  have e : (l.map fun F => Dat.raw (.func (.func F) #[] #[])).length = l.length := List.length_map _
  have hm : ∀ (k : Nat) (x : Dat), (l.map fun F => Dat.raw (.func (.func F) #[] #[]))[k]? = some x → ∃ F, l[k]? = some F ∧ x = Dat.raw (.func (.func F) #[] #[]) := fun k x hk => by
    rw [List.getElem?_map] at hk
    obtain ⟨F, hF, rfl⟩ := Option.map_eq_some_iff.1 hk
    exact ⟨F, hF, rfl⟩
  have := Rd.list (A := A) (w := w) (sz := 1) (xs := l.map fun F => .raw (.func (.func F) #[] #[])) (some ⟨b, 0, none⟩) l.length b 0 (fun k => [.func (.func (l.getD k 0)) #[] #[]]) (by rw [e]; exact Nat.le_refl _) (by omega) (fun _ => ⟨rfl, hA, lt_of_heap h⟩) (fun _ _ _ => rfl)
    (fun k x hk j u hu => by
      obtain ⟨F, hF, rfl⟩ := hm k x hk
      match j, hu with
      | 0, hu =>
        cases hu
        rw [show (⟨b, 0 + k * 1 + 0, none⟩ : Addr) = at_ b k by simp, cell_of_blk h]
        simp [hF, List.getD_eq_getElem?_getD])
    (fun k x hk => by
      obtain ⟨F, hF, rfl⟩ := hm k x hk
      simp only [List.getD_eq_getElem?_getD, hF, Option.getD_some]
      exact Rd.raw _ rfl)
  rwa [e] at this
set_option maxHeartbeats 1000000 in
/-- font.CheckCore -/
theorem core_calls {A : Nat → Prop} {w : World} {f : CV} {xsC xsH : List Dat} {pC pH : Nat → Int} (h : CoreOK A w f xsC xsH pC pH) :
    Calls Tryz.prog 27 #[.agg f.cells] w fun e w' => e = .returned (.int .i64 (coreErr f (firstE pC xsC.length) (firstE pH xsH.length))) ∧ Ext Nope w w' := by
  obtain ⟨E, HE⟩ : ∃ E, Hid (coreErr f (firstE pC xsC.length) (firstE pH xsH.length) = E) := ⟨_, rfl⟩
  rw [HE.out]
  have HW := toHid h
  clear h
  obtain ⟨ver, cnt, a5, n5, k5, a7, n7, k7⟩ := f
  go_enter Tryz.func27, Tryz.ntmps27
  go_wp2_with fail
  have e1 : Ext Nope w ((w.alloc (.cells (CV.cells ⟨ver, cnt, a5, n5, k5, a7, n7, k7⟩) 32)).alloc (.cells (coreFuncs.map fun F => Value.func (.func F) #[] #[]).toArray 83)) := ((Ext.refl _ _).alloc _).alloc _
  have hz1 : ((w.alloc (.cells (CV.cells ⟨ver, cnt, a5, n5, k5, a7, n7, k7⟩) 32)).alloc (.cells (coreFuncs.map fun F => Value.func (.func F) #[] #[]).toArray 83)).heap[w.heap.size]? = some (.cells (CV.cells ⟨ver, cnt, a5, n5, k5, a7, n7, k7⟩) 32 (0, 0)) := (heap_alloc_old _ _ _ (by rw [alloc_size1]; exact Nat.lt_succ_self _)).trans (heap_alloc_new w _)
  have hz2 : ((w.alloc (.cells (CV.cells ⟨ver, cnt, a5, n5, k5, a7, n7, k7⟩) 32)).alloc (.cells (coreFuncs.map fun F => Value.func (.func F) #[] #[]).toArray 83)).heap[w.heap.size + 1]? = some (.cells (coreFuncs.map fun F => Value.func (.func F) #[] #[]).toArray 83 (0, 0)) := heap_alloc_at _ _ _ (alloc_size1 w _).symm
  have hk := fun (W : World) (e1 : Ext Nope w W) (hz1 : W.heap[w.heap.size]? = some (.cells (CV.cells ⟨ver, cnt, a5, n5, k5, a7, n7, k7⟩) 32 (0, 0))) (hz2 : W.heap[w.heap.size + 1]? = some (.cells (coreFuncs.map fun F => Value.func (.func F) #[] #[]).toArray 83 (0, 0))) => each_funcs (A := fun _ => True) (w := W) (f := 82) (caps := #[ptr w.heap.size]) (p := fun k => (coreErrs ⟨ver, cnt, a5, n5, k5, a7, n7, k7⟩ (firstE pC xsC.length) (firstE pH xsH.length)).getD k 0) ent_core1 (Rd.funcs (l := coreFuncs) (b := w.heap.size + 1) hz2 trivial (by decide)) (fun k W' u hk hE hel => by
    obtain ⟨x, hx, hr⟩ := hel
    rw [List.getElem?_map] at hx
    obtain ⟨F, hF, rfl⟩ := Option.map_eq_some_iff.1 hx
    obtain ⟨hu, _⟩ := hr.raw_inv
    simp only [List.cons.injEq, and_true] at hu
    subst hu
    exact core_closure ((hE.block _ (lt_of_heap hz1) (fun z => z)).trans hz1) (core_enters hF) k (core_one (HW.out.ext0 (ext0 e1 hE)) hF))
  refine (hk _ e1 hz1 hz2).mono ?_
  rintro e w2 ⟨rfl, e2⟩
  have H2 := toHid (ext0 e1 e2)
  clear e1 e2 hz1 hz2 hk
  have hE : Hid (firstE (fun k => (coreErrs ⟨ver, cnt, a5, n5, k5, a7, n7, k7⟩ (firstE pC xsC.length) (firstE pH xsH.length)).getD k 0) (coreFuncs.map fun F => Dat.raw (.func (.func F) #[] #[])).length = E) := (core_first _ _ _).trans HE.out
  rw [hE.out]
  go_wp2_with fail
  go_ret
  exact ⟨rfl, H2.out⟩
end Go.Proofs.YtajebdpalnpjdaaGreatDoor
namespace Go.Proofs.YtajebdpalnpjdaaGreatDoor
open Go.RowKit
attribute [local go_sem] alloc_drewN setCell_drewN

/-- font.proved of a glyph without a program -/
theorem proved_none {w : World} (v0 v1 : Value) (x2 x3 x4 x5 : Int) (v6 : Value) (a : Option Addr) (c : Nat) (h0 : v0.oneCell' = true) (h1 : v1.oneCell' = true) (h6 : v6.oneCell' = true) (n : Int) :
    Calls Tryz.prog 35 #[.agg #[v0, v1, .int .i64 x2, .int .i64 x3, .int .i64 x4, .int .i64 x5, v6, .slice a 0 c], .int .i64 n] w fun e w' => e = .returned (.int .i64 0) ∧ Ext Nope w w' := by
  have o0 := store_one (P := Tryz.prog) h0
  have o1 := store_one (P := Tryz.prog) h1
  have o6 := store_one (P := Tryz.prog) h6
  go_enter Tryz.func35, Tryz.ntmps35
  go_wp2_with fail
  go_ret
  exact ⟨rfl, (Ext.refl _ _).alloc _⟩
/-- The cells of a font. -/
structure TV where
  f : CV
  al : Option Addr
  nl : Nat
  cl : Nat
  ag : Option Addr
  ng : Nat
  cg : Nat
abbrev TV.cells (t : TV) : Array Value := #[.string n_a, .int .i64 t.f.ver, .slice none 0 0, .slice none 0 0, .int .i64 t.f.cnt, .slice t.f.a5 t.f.n5 t.f.c5, .slice none 0 0, .slice t.f.a7 t.f.n7 t.f.c7, .string ⟨#[]⟩, .slice t.al t.nl t.cl, .slice t.ag t.ng t.cg]
set_option maxRecDepth 100000 in
set_option maxHeartbeats 2000000 in
/-- What font.Check asks of each glyph -/
theorem glyph_closure {A : Nat → Prop} {w : World} {t : TV} {bb : Nat} (hz : w.heap[bb]? = some (.cells t.cells 36 (0, 0))) {cs : List Value} {g : GlyphA} (hp : Plain g) (hr : Rd A w cs (glyphD g)) (hb : sumL g.contours ≤ 1000000) (hl : g.contours.length ≤ 1000000) (k : Nat) {pe : Int}
    (hP : ∀ W, Ext Nope w W → Calls Tryz.prog 35 #[.agg cs.toArray, .int .i64 0] W fun e w' => e = .returned (.int .i64 pe) ∧ Ext Nope W w') :
    Calls Tryz.prog 33 #[.int .i64 k, .agg cs.toArray, ptr bb] w fun e w' => e = .returned (.int .i64 (if glyphErr g ≠ 0 then glyphErr g else pe)) ∧ Ext Nope w w' := by
  have HC := toHid (fun W (e : Ext Nope w W) => check_glyph (w := W) 0 (by omega) hp (hr.ext0 e) hb hl)
  have HP := toHid hP
  obtain ⟨ge, HGE⟩ : ∃ ge, Hid (glyphErr g = ge) := ⟨_, rfl⟩
  rw [HGE.out] at HC ⊢
  obtain ⟨E, HE⟩ : ∃ E : Int, Hid ((if ge ≠ 0 then ge else pe) = E) := ⟨_, rfl⟩
  rw [HE.out]
  obtain ⟨v0, v1, v6, v7, rfl, h0, h1, h5, h6, h7⟩ := hr.glyph
  have o0 := store_one (P := Tryz.prog) (h0.one v0 (by simp))
  have o1 := store_one (P := Tryz.prog) (h1.one v1 (by simp))
  have o6 := store_one (P := Tryz.prog) (h6.one v6 (by simp))
  have o7 := store_one (P := Tryz.prog) (h7.one v7 (by simp))
  have hsz : bb < w.heap.size := lt_of_heap hz
  obtain ⟨⟨ver, cnt, a5, n5, k5, a7, n7, k7⟩, al, nl, cl, ag, ng, cg⟩ := t
  clear hP hr h0 h1 h5 h6 h7
  go_enter Tryz.func33, Tryz.ntmps33
  have e1 : Ext Nope w (w.alloc (.cells #[v0, v1, .int .i64 g.hang.cls, .int .i64 g.hang.x, .int .i64 g.hang.y, .int .i64 g.advance, v6, v7] 47)) := (Ext.refl _ _).alloc _
  have hz1 := (e1.block _ hsz (fun z => z)).trans hz
  have hg1 := heap_alloc_new w (.cells #[v0, v1, .int .i64 g.hang.cls, .int .i64 g.hang.x, .int .i64 g.hang.y, .int .i64 g.advance, v6, v7] 47)
  obtain ⟨c0, c1, c2, c3, c4, c5, c6, c7, c8, c9, c10⟩ := font_cells hz1
  have H1 := toHid (show _ ∧ _ ∧ _ from ⟨e1, hz1, hg1⟩)
  clear e1 hz1 hg1 hz
  go_wp2_with fail
  refine (HC.out _ H1.out.1).mono ?_
  rintro e w2 ⟨rfl, e2⟩
  have hz2 := (e2.block _ (lt_of_heap H1.out.2.1) (fun z => z)).trans H1.out.2.1
  have hg2 := (e2.block _ (lt_of_heap H1.out.2.2) (fun z => z)).trans H1.out.2.2
  have H2 := toHid (show _ ∧ _ ∧ _ from ⟨(ext0 H1.out.1 e2 : Ext Nope w w2), hz2, hg2⟩)
  clear c0 c1 c2 c3 c4 c5 c6 c7 c8 c9 c10
  obtain ⟨c0, c1, c2, c3, c4, c5, c6, c7, c8, c9, c10⟩ := font_cells hz2
  obtain ⟨d0, d1, d2, d3, d4, d5, d6, d7⟩ := glyph_cells hg2
  clear e2 hz2 hg2
  by_cases hge : ge = 0
  · subst hge
    go_wp2_with fail
    refine (HP.out _ H2.out.1).mono ?_
    rintro e w3 ⟨rfl, e3⟩
    have H3 := toHid (ext0 H2.out.1 e3)
    clear e3
    go_wp2_with fail
    go_ret
    exact ⟨congrArg (fun z => Ending.returned (Value.int .i64 z)) (by rw [← HE.out]; simp), H3.out⟩
  · go_wp2_with fail
    go_ret
    exact ⟨congrArg (fun z => Ending.returned (Value.int .i64 z)) (by rw [← HE.out, if_pos hge]), H2.out.1⟩
theorem ent_check1 : Enters 29 := enters_of Tryz.func29 (by kernel_rfl) rfl
theorem ent_check2 : Enters 33 := enters_of Tryz.func33 (by kernel_rfl) rfl
/-- What is asked of a font. -/
structure FontOK (A : Nat → Prop) (w : World) (t : TV) (xsC xsH : List Dat) (pC pH : Nat → Int) (xsL xsG : List Dat) (pL pG : Nat → Int) : Prop where
  core : CoreOK A w t.f xsC xsH pC pH
  rdL : Rd A w [.slice t.al t.nl t.cl] (.l 1 xsL)
  rdG : Rd A w [.slice t.ag t.ng t.cg] (.l 8 xsG)
  ckL : ∀ W bb, Ext Nope w W → W.heap[bb]? = some (.cells t.cells 36 (0, 0)) → Checks 29 #[ptr bb] W xsL.length (ElS A xsL) pL
  ckG : ∀ W bb, Ext Nope w W → W.heap[bb]? = some (.cells t.cells 36 (0, 0)) → Checks 33 #[ptr bb] W xsG.length (ElS A xsG) pG
def fontErr (t : TV) (ce eL eG : Int) : Int := if ce ≠ 0 then ce else if t.nl ≠ t.f.n7 ∨ (t.ng : Int) ≠ t.f.cnt then 2 else if eL ≠ 0 then eL else eG
set_option maxRecDepth 100000 in
set_option maxHeartbeats 600000 in
/-- font.Check -/
theorem font_check {A : Nat → Prop} {w : World} {t : TV} {xsC xsH : List Dat} {pC pH : Nat → Int} {xsL xsG : List Dat} {pL pG : Nat → Int} (h : FontOK A w t xsC xsH pC pH xsL xsG pL pG) :
    Calls Tryz.prog 13 #[.agg t.cells] w fun e w' => e = .returned (.int .i64 (fontErr t (coreErr t.f (firstE pC xsC.length) (firstE pH xsH.length)) (firstE pL xsL.length) (firstE pG xsG.length))) ∧ Ext Nope w w' := by
  obtain ⟨ce, HCE⟩ : ∃ ce, Hid (coreErr t.f (firstE pC xsC.length) (firstE pH xsH.length) = ce) := ⟨_, rfl⟩
  obtain ⟨eL, HEL⟩ : ∃ eL, Hid (firstE pL xsL.length = eL) := ⟨_, rfl⟩
  obtain ⟨eG, HEG⟩ : ∃ eG, Hid (firstE pG xsG.length = eG) := ⟨_, rfl⟩
  rw [HCE.out, HEL.out, HEG.out]
  obtain ⟨E, HE⟩ : ∃ E, Hid (fontErr t ce eL eG = E) := ⟨_, rfl⟩
  rw [HE.out]
  have HC := toHid (fun W (e : Ext Nope w W) => core_calls (h.core.ext0 e))
  have HL := toHid (fun (W : World) (bb : Nat) (e : Ext Nope w W) (hb : W.heap[bb]? = some (.cells t.cells 36 (0, 0))) => each_lookups ent_check1 (h.rdL.ext0 e) (h.ckL W bb e hb))
  have HG := toHid (fun (W : World) (bb : Nat) (e : Ext Nope w W) (hb : W.heap[bb]? = some (.cells t.cells 36 (0, 0))) => each_glyphs ent_check2 (h.rdG.ext0 e) (h.ckG W bb e hb))
  rw [HCE.out] at HC
  rw [HEL.out] at HL
  rw [HEG.out] at HG
  clear h
  obtain ⟨⟨ver, cnt, a5, n5, k5, a7, n7, k7⟩, al, nl, cl, ag, ng, cg⟩ := t
  go_enter Tryz.func13, Tryz.ntmps13
  have e1 : Ext Nope w (w.alloc (.cells (TV.cells ⟨⟨ver, cnt, a5, n5, k5, a7, n7, k7⟩, al, nl, cl, ag, ng, cg⟩) 36)) := (Ext.refl _ _).alloc _
  have hz1 := heap_alloc_new w (.cells (TV.cells ⟨⟨ver, cnt, a5, n5, k5, a7, n7, k7⟩, al, nl, cl, ag, ng, cg⟩) 36)
  have H1 := toHid (show _ ∧ _ from ⟨e1, hz1⟩)
  clear e1 hz1
  go_wp2_with fail
  refine (HC.out _ H1.out.1).mono ?_
  rintro e w2 ⟨rfl, e2⟩
  have hz2 := (e2.block _ (lt_of_heap H1.out.2) (fun z => z)).trans H1.out.2
  have H2 := toHid (show _ ∧ _ from ⟨(ext0 H1.out.1 e2 : Ext Nope w w2), hz2⟩)
  obtain ⟨c0, c1, c2, c3, c4, c5, c6, c7, c8, c9, c10⟩ := font_cells hz2
  clear e2 hz2
  by_cases hce : ce = 0
  · subst hce
    by_cases hm : nl ≠ n7 ∨ (ng : Int) ≠ cnt
    · by_cases hn : nl = n7
      · have hg : (ng : Int) ≠ cnt := by rcases hm with h | h; · exact absurd hn h
                                         · exact h
        have s2 : ((ng : Int) != cnt) = true := by rw [bne_iff_ne]; exact hg
        have s1' : ((nl : Int) != (n7 : Int)) = false := by rw [hn]; simp
        go_wp2_with fail
        go_ret
        exact ⟨congrArg (fun z => Ending.returned (Value.int .i64 z)) (by rw [← HE.out]; unfold fontErr; rw [if_neg (by simp), if_pos hm]), H2.out.1⟩
      · have s1' : ((nl : Int) != (n7 : Int)) = true := by rw [bne_iff_ne]; omega
        go_wp2_with fail
        go_ret
        exact ⟨congrArg (fun z => Ending.returned (Value.int .i64 z)) (by rw [← HE.out]; unfold fontErr; rw [if_neg (by simp), if_pos hm]), H2.out.1⟩
    · have hn : nl = n7 := by omega
      have hg : (ng : Int) = cnt := by omega
      subst hn
      subst hg
      go_wp2_with fail
      have HL2 := HL.out w2 w.heap.size H2.out.1 H2.out.2
      refine HL2.mono ?_
      rintro e w3 ⟨rfl, e3⟩
      have hz3 := (e3.block _ (lt_of_heap H2.out.2) (fun z => z)).trans H2.out.2
      have H3 := toHid (show _ ∧ _ from ⟨(ext0 H2.out.1 e3 : Ext Nope w w3), hz3⟩)
      clear c0 c1 c2 c3 c4 c5 c6 c7 c8 c9 c10
      obtain ⟨c0, c1, c2, c3, c4, c5, c6, c7, c8, c9, c10⟩ := font_cells hz3
      clear e3 hz3
      by_cases hel : eL = 0
      · subst hel
        go_wp2_with fail
        have HG3 := HG.out w3 w.heap.size H3.out.1 H3.out.2
        refine HG3.mono ?_
        rintro e w4 ⟨rfl, e4⟩
        have H4 := toHid (ext0 H3.out.1 e4)
        clear e4
        go_wp2_with fail
        go_ret
        exact ⟨congrArg (fun z => Ending.returned (Value.int .i64 z)) (by rw [← HE.out]; unfold fontErr; rw [if_neg (by simp), if_neg hm]; simp), H4.out⟩
      · have s3 : (eL != 0) = true := by rw [bne_iff_ne]; exact hel
        go_wp2_with fail
        go_ret
        exact ⟨congrArg (fun z => Ending.returned (Value.int .i64 z)) (by rw [← HE.out]; unfold fontErr; rw [if_neg (by simp), if_neg hm, if_pos hel]), H3.out.1⟩
  · have s3 : (ce != 0) = true := by rw [bne_iff_ne]; exact hce
    go_wp2_with fail
    go_ret
    exact ⟨congrArg (fun z => Ending.returned (Value.int .i64 z)) (by rw [← HE.out]; unfold fontErr; rw [if_pos hce]), H2.out.1⟩
end Go.Proofs.YtajebdpalnpjdaaGreatDoor
