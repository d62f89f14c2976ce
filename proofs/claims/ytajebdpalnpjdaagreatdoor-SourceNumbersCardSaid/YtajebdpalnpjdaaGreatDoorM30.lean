/-
  The words of a line that is written.
  An instruction, written.
  The line of a core.
-/
import Derived.Test.YtajebdpalnpjdaaGreatDoorM29
import Derived.Test.YtajebdpalnpjdaaGreatDoorM24
import Derived.Test.YtajebdpalnpjdaaGreatDoorM27
namespace Go.Proofs.YtajebdpalnpjdaaGreatDoor
open Go.RowKit
attribute [local go_sem] alloc_drewN setCell_drewN

theorem Rd.intsB {A : Nat → Prop} {w : World} {b T : Nat} {fz : Nat × Nat} {l : List Int} (h : w.heap[b]? = some (.cells (l.map fun n => Value.int .i64 n).toArray T fz)) (hA : A b) (hi : ∀ n ∈ l, i64 n) (cap : Nat) (hc : l.length ≤ cap) (hl : cap ≤ 9223372036854775807) : Rd A w [.slice (some ⟨b, 0, none⟩) l.length cap] (intsD l) := by
  have e : (l.map Dat.i).length = l.length := List.length_map _
  have hm : ∀ (k : Nat) (x : Dat), (l.map Dat.i)[k]? = some x → ∃ n, l[k]? = some n ∧ x = Dat.i n := fun k x hk => by
    rw [List.getElem?_map] at hk
    obtain ⟨n, hn, rfl⟩ := Option.map_eq_some_iff.1 hk
    exact ⟨n, hn, rfl⟩
  have := Rd.list (A := A) (w := w) (sz := 1) (xs := l.map Dat.i) (some ⟨b, 0, none⟩) cap b 0 (fun k => [.int .i64 (l.getD k 0)]) (by rw [e]; exact hc) hl (fun _ => ⟨rfl, hA, lt_of_heap h⟩) (fun _ _ _ => rfl)
    (fun k x hk j u hu => by
      obtain ⟨n, hn, rfl⟩ := hm k x hk
      match j, hu with
      | 0, hu =>
        simp only [List.getElem?_cons_zero, Option.some.injEq] at hu
        rw [show (⟨b, 0 + k * 1 + 0, none⟩ : Addr) = at_ b k by simp, cell_of_blk h]
        simp [hn, ← hu, List.getD_eq_getElem?_getD])
    (fun k x hk => by
      obtain ⟨n, hn, rfl⟩ := hm k x hk
      rw [List.getD_eq_getElem?_getD, hn]
      exact .int n (hi n (List.mem_of_getElem? hn)))
  rw [e] at this
  exact this
theorem ent_itoa : Enters 99 := enters_of Tryz.func99 (by kernel_rfl) rfl
theorem writes_itoa {A : Nat → Prop} {w : World} (G : Glob w) {l : List Int} (hi : ∀ n ∈ l, i64 n) : Writes 99 #[] w (El1 A (l.map .i)) (l.map num) := by
  intro k W u s hs hE hu
  obtain ⟨x, hx, hr⟩ := hu
  rw [List.getElem?_map] at hx hs
  obtain ⟨n, hn, rfl⟩ := Option.map_eq_some_iff.1 hx
  rw [hn] at hs
  have hs : num n = s := by simpa using hs
  subst hs
  obtain ⟨hu, _⟩ := hr.i_inv
  have hu : u = .int .i64 n := by simpa using hu
  subst hu
  exact itoa_calls (G.ext0 hE) (hi n (List.mem_of_getElem? hn))
theorem num_small {n : Int} (h : i64 n) : (num n).size ≤ 21 := num_size h.1 h.2
set_option maxHeartbeats 1000000 in
/-- source.numbers -/
theorem numbers_write {A : Nat → Prop} {w : World} (G : Glob w) {v : Value} {l : List Int} (hr : Rd A w [v] (intsD l)) (hi : ∀ n ∈ l, i64 n) (hl : l.length ≤ 100000) :
    Calls Tryz.prog 39 #[v] w fun e w' => ∃ v', e = .returned v' ∧ OwnS w' w.heap.size v' (l.map num) ∧ Ext Nope w w' := by
  have HE := toHid (writes_ints ent_itoa hr (ss := l.map num) (by simp) (by simpa using hl) (caps := #[]) (writes_itoa G hi))
  obtain ⟨av, cv, hv, _⟩ := hr.len
  subst hv
  generalize (l.map Dat.i).length = n at *
  clear hr hl hi G
  go_enter Tryz.func39, Tryz.ntmps39
  go_wp2_with fail
  refine HE.out.mono ?_
  rintro e w2 ⟨v2, rfl, o2, e2⟩
  obtain ⟨av2, cv2, hv2, _⟩ := own_gen o2
  generalize (l.map num).length = n2 at hv2
  subst hv2
  have H2 := toHid (show _ ∧ _ from ⟨o2, e2⟩)
  clear o2 e2 HE
  go_wp2_with fail
  go_ret
  exact ⟨_, rfl, H2.out⟩
set_option maxHeartbeats 1000000 in
/-- source.parts -/
theorem parts_write (w : World) (a : Option Addr) (n c : Nat) : Calls Tryz.prog 38 #[.slice a n c] w fun e w' => e = .returned (.slice a n c) ∧ w = w' := by
  go_enter Tryz.func38, Tryz.ntmps38
  go_wp2_with fail
  go_ret
  exact ⟨rfl, rfl⟩
set_option maxHeartbeats 1000000 in
/-- source.between -/
theorem between_write {A : Nat → Prop} {w : World} (G : Glob w) {v : Value} {l : List Int} (hr : Rd A w [v] (intsD l)) (hi : ∀ n ∈ l, i64 n) (h0 : 0 < l.length) (hl : l.length ≤ 1000) (c : UInt8) (hs : (joinB c (l.map num)).size ≤ 1000000) :
    Calls Tryz.prog 93 #[.string ⟨#[c]⟩, v] w fun e w' => e = .returned (.string (joinB c (l.map num))) ∧ Ext Nope w w' := by
  have HE := toHid (writes_ints ent_itoa hr (ss := l.map num) (by simp) (by simp; omega) (caps := #[]) (writes_itoa G hi))
  have HS := toHid (show ∀ s ∈ l.map num, s.size ≤ maxLen from fun s hs => by
    obtain ⟨n, hn, rfl⟩ := List.mem_map.1 hs
    have := num_small (hi n hn)
    unfold maxLen; omega)
  have HJ := toHid (fun (W : World) (v' : Value) (hr' : Rd (fun _ => True) W [v'] (strsD (l.map num))) => join_strings hr' (by simpa using h0) (by simp; omega) c hs)
  obtain ⟨t, HT⟩ : ∃ t, Hid (joinB c (l.map num) = t) := ⟨_, rfl⟩
  rw [HT.out] at HJ ⊢
  obtain ⟨m, HM⟩ : ∃ m : ByteArray, Hid ((⟨#[c]⟩ : ByteArray) = m) := ⟨_, rfl⟩
  rw [HM.out] at HJ ⊢
  obtain ⟨av, cv, hv, _⟩ := hr.len
  generalize (l.map Dat.i).length = n at hv
  subst hv
  clear hr hl hi G h0 hs
  go_enter Tryz.func93, Tryz.ntmps93
  go_wp2_with fail
  refine HE.out.mono ?_
  rintro e w2 ⟨v2, rfl, o2, e2⟩
  have hrd := OwnS.rd (A := fun _ => True) o2 (fun _ _ => trivial) HS.out
  obtain ⟨av2, cv2, hv2, _⟩ := own_gen o2
  generalize (l.map num).length = n2 at hv2
  subst hv2
  have H2 := toHid (show _ ∧ _ from ⟨hrd, e2⟩)
  clear o2 e2 HE hrd
  go_wp2_with fail
  refine (HJ.out _ _ H2.out.1).mono ?_
  rintro e w3 ⟨rfl, e3⟩
  have H3 := toHid (ext0 H2.out.2 e3)
  clear e3
  go_wp2_with fail
  go_ret
  exact ⟨rfl, H3.out⟩
theorem join2_size {c : UInt8} {x y : Int} (hx : i64 x) (hy : i64 y) : (joinB c ([x, y].map num)).size ≤ 43 := by
  have h1 := num_small hx
  have h2 := num_small hy
  have hh : ∀ b : ByteArray, b.size = b.data.toList.length := fun b => rfl
  have e : (joinB c ([x, y].map num)).size = (num x).size + 1 + (num y).size := by
    rw [hh, hh, hh, joinB_list]
    simp [joinC]
    omega
  omega
set_option maxHeartbeats 2000000 in
/-- source.point -/
theorem point_write {w : World} (G : Glob w) {p : PtA} (hx : i64 p.x) (hy : i64 p.y) : Calls Tryz.prog 105 #[.agg #[.int .i64 p.x, .int .i64 p.y, .bool p.on]] w fun e w' => e = .returned (.string (ptText p)) ∧ Ext Nope w w' := by
  obtain ⟨x, y, on⟩ := p
  have hsz : (joinB 44 ([x, y].map num)).size ≤ 43 := join2_size hx hy
  have HB := toHid (show ∀ (W : World) (b : Nat), Ext Nope w W → W.heap[b]? = some (.cells #[.int .i64 x, .int .i64 y] 3 (0, 0)) → _ from fun W b e hb => between_write (G.ext0 e) (Rd.intsB (A := fun _ => True) (l := [x, y]) hb trivial (by intro n hn; simp at hn; rcases hn with rfl | rfl; exact hx; exact hy) 2 (Nat.le_refl 2) (by omega)) (by intro n hn; simp at hn; rcases hn with rfl | rfl; exact hx; exact hy) (by simp) (by simp) 44 (Nat.le_trans hsz (by omega)))
  obtain ⟨t, HT⟩ : ∃ t, Hid (joinB 44 ([x, y].map num) = t) := ⟨_, rfl⟩
  have hc : ptCore ⟨x, y, on⟩ = t := HT.out
  rw [HT.out] at HB hsz
  have s1 : ¬ 9223372036854775807 < t.size + 1 := by omega
  have hT2 : Hid (∀ b, on = b → ptText ⟨x, y, on⟩ = if b then t else t ++ (⟨#[126]⟩ : ByteArray)) := fun b hb => by
    subst hb
    unfold ptText
    rw [hc]
    cases on
    · simp only [Bool.false_eq_true, if_false]
      apply bytes_ext
      simp
    · rfl
  clear G hx hy hsz hc
  cases on
  · have hz := hT2.out false rfl
    simp only [Bool.false_eq_true, if_false] at hz
    rw [hz]
    have e1 : Ext Nope w ((w.alloc (.cells #[.int .i64 x, .int .i64 y, .bool false] 50)).alloc (.cells #[.int .i64 x, .int .i64 y] 3)) := ((Ext.refl _ _).alloc _).alloc _
    have h1 := heap_alloc_at (w.alloc (.cells #[.int .i64 x, .int .i64 y, .bool false] 50)) (.cells #[.int .i64 x, .int .i64 y] 3) (w.heap.size + 1) (by simp)
    have H1 := toHid (show _ ∧ _ from ⟨e1, h1⟩)
    clear e1 h1 hz
    go_enter Tryz.func105, Tryz.ntmps105
    go_wp2_with fail
    refine (HB.out _ _ H1.out.1 H1.out.2).mono ?_
    rintro e w2 ⟨rfl, e2⟩
    have H2 := toHid (ext0 H1.out.1 e2)
    clear e2
    go_wp2_with fail
    go_ret
    exact ⟨rfl, H2.out⟩
  · have hz := hT2.out true rfl
    simp only [if_true] at hz
    rw [hz]
    have e1 : Ext Nope w ((w.alloc (.cells #[.int .i64 x, .int .i64 y, .bool true] 50)).alloc (.cells #[.int .i64 x, .int .i64 y] 3)) := ((Ext.refl _ _).alloc _).alloc _
    have h1 := heap_alloc_at (w.alloc (.cells #[.int .i64 x, .int .i64 y, .bool true] 50)) (.cells #[.int .i64 x, .int .i64 y] 3) (w.heap.size + 1) (by simp)
    have H1 := toHid (show _ ∧ _ from ⟨e1, h1⟩)
    clear e1 h1 hz
    go_enter Tryz.func105, Tryz.ntmps105
    go_wp2_with fail
    refine (HB.out _ _ H1.out.1 H1.out.2).mono ?_
    rintro e w2 ⟨rfl, e2⟩
    have H2 := toHid (ext0 H1.out.1 e2)
    clear e2
    go_wp2_with fail
    go_ret
    exact ⟨rfl, H2.out⟩
/-- A call, written. -/
def callS (p : Int × Int) : ByteArray := joinB 58 ([p.1, p.2].map num)
set_option maxHeartbeats 2000000 in
/-- writer.rule$1 -/
theorem call_write {w : World} (G : Glob w) {x y : Int} (hx : i64 x) (hy : i64 y) : Calls Tryz.prog 101 #[.agg #[.int .i64 x, .int .i64 y]] w fun e w' => e = .returned (.string (callS (x, y))) ∧ Ext Nope w w' := by
  have HB := toHid (show ∀ (W : World) (b : Nat), Ext Nope w W → W.heap[b]? = some (.cells #[.int .i64 x, .int .i64 y] 3 (0, 0)) → _ from fun W b e hb => between_write (G.ext0 e) (Rd.intsB (A := fun _ => True) (l := [x, y]) hb trivial (by intro n hn; simp at hn; rcases hn with rfl | rfl; exact hx; exact hy) 2 (Nat.le_refl 2) (by omega)) (by intro n hn; simp at hn; rcases hn with rfl | rfl; exact hx; exact hy) (by simp) (by simp) 58 (Nat.le_trans (join2_size hx hy) (by omega)))
  unfold callS
  simp only
  obtain ⟨t, HT⟩ : ∃ t, Hid (joinB 58 ([x, y].map num) = t) := ⟨_, rfl⟩
  rw [HT.out] at HB ⊢
  have e1 : Ext Nope w ((w.alloc (.cells #[.int .i64 x, .int .i64 y] 184)).alloc (.cells #[.int .i64 x, .int .i64 y] 3)) := ((Ext.refl _ _).alloc _).alloc _
  have h1 := heap_alloc_at (w.alloc (.cells #[.int .i64 x, .int .i64 y] 184)) (.cells #[.int .i64 x, .int .i64 y] 3) (w.heap.size + 1) (by simp)
  have H1 := toHid (show _ ∧ _ from ⟨e1, h1⟩)
  clear e1 h1 G hx hy
  go_enter Tryz.func101, Tryz.ntmps101
  go_wp2_with fail
  refine (HB.out _ _ H1.out.1 H1.out.2).mono ?_
  rintro e w2 ⟨rfl, e2⟩
  have H2 := toHid (ext0 H1.out.1 e2)
  clear e2
  go_wp2_with fail
  go_ret
  exact ⟨rfl, H2.out⟩
/-- A set, written. -/
def setS (l : List Int) : ByteArray := (⟨#[123]⟩ : ByteArray) ++ joinB 44 (l.map num) ++ (⟨#[125]⟩ : ByteArray)
set_option maxHeartbeats 2000000 in
/-- source.set -/
theorem set_write {A : Nat → Prop} {w : World} (G : Glob w) {v : Value} {l : List Int} (hr : Rd A w [v] (intsD l)) (hi : ∀ n ∈ l, i64 n) (h0 : 0 < l.length) (hl : l.length ≤ 1000) (hs : (joinB 44 (l.map num)).size ≤ 1000000) :
    Calls Tryz.prog 103 #[v] w fun e w' => e = .returned (.string (setS l)) ∧ Ext Nope w w' := by
  have HB := toHid (between_write G hr hi h0 hl 44 hs)
  unfold setS
  obtain ⟨t, HT⟩ : ∃ t, Hid (joinB 44 (l.map num) = t) := ⟨_, rfl⟩
  rw [HT.out] at HB hs ⊢
  obtain ⟨av, cv, hv, _⟩ := hr.len
  generalize (l.map Dat.i).length = n at hv
  subst hv
  have s1 : ¬ 9223372036854775807 < 1 + t.size := by omega
  have s2 : ¬ 9223372036854775807 < 1 + t.size + 1 := by omega
  have h3 : ((⟨#[123]⟩ : ByteArray) ++ t).size = 1 + t.size := by rw [ByteArray.size_append]; rfl
  clear hr hi h0 hl hs G
  go_enter Tryz.func103, Tryz.ntmps103
  go_wp2_with fail
  refine HB.out.mono ?_
  rintro e w2 ⟨rfl, e2⟩
  have H2 := toHid e2
  clear e2
  go_wp2_with fail
  go_ret
  exact ⟨rfl, H2.out⟩
end Go.Proofs.YtajebdpalnpjdaaGreatDoor
namespace Go.Proofs.YtajebdpalnpjdaaGreatDoor
open Go.RowKit
attribute [local go_sem] alloc_drewN setCell_drewN

/-- An instruction with a number, written. -/
def insS (x : Int × Int) : ByteArray := insW x ++ (⟨#[32]⟩ : ByteArray) ++ num x.2
set_option maxRecDepth 100000 in
set_option maxHeartbeats 4000000 in
theorem ins_push {w : World} (G : Glob w) {ab kb : Nat} (hab : w.heap[ab]? = some (.cells #[.slice (some ⟨kb, 0, none⟩) 26 26] 59 (0, 0))) (hkb : w.heap[kb]? = some (.cells (kwords.map Value.string).toArray 9 (0, 0))) :
    Calls Tryz.prog 110 #[.agg #[.int .i64 1, .int .i64 5], ptr ab] w fun e w' => e = .returned (.string (insS (1, 5))) ∧ Ext Nope w w' := by
  have HI := toHid (fun (W : World) (e : Ext Nope w W) => itoa_calls (G.ext0 e) (n := 5) (by unfold i64; omega))
  have hsz := num_small (n := 5) (by unfold i64; omega)
  have hS : insS (1, 5) = i_push ++ (⟨#[32]⟩ : ByteArray) ++ num 5 := rfl
  rw [hS]
  generalize num 5 = t at *
  have e1 : Ext Nope w (w.alloc (.cells #[.int .i64 1, .int .i64 5] 194)) := (Ext.refl _ _).alloc _
  have h1 := (e1.block _ (lt_of_heap hab) (fun z => z)).trans hab
  have h2 := (e1.block _ (lt_of_heap hkb) (fun z => z)).trans hkb
  have hz := heap_alloc_new w (.cells #[.int .i64 1, .int .i64 5] 194)
  have hal := lt_of_heap hab
  have E1 := toHid (show _ ∧ _ ∧ _ ∧ _ from ⟨e1, h1, h2, hz⟩)
  clear hab hkb h1 h2 hz e1 G hS
  go_enter Tryz.func110, Tryz.ntmps110
  go_wp2_with fail
  refine (numbered_1 _).mono ?_
  rintro e w2 ⟨rfl, rfl⟩
  obtain ⟨X, HX⟩ : ∃ X, Hid (w.heap.size = X) := ⟨_, rfl⟩
  rw [HX.out] at E1 ⊢
  generalize w.alloc (.cells #[.int .i64 1, .int .i64 5] 194) = w1 at *
  go_upto_region 2 with fail
  have SK : Hid (∀ W, Ext Nope w1 W → W.cell? ⟨ab, 0, none⟩ = some (.slice (some ⟨kb, 0, none⟩) 26 26) ∧ W.cell? ⟨kb, 0, none⟩ = some (.string i_push) ∧ W.cell? ⟨X, 0, none⟩ = some (.int .i64 1) ∧ W.cell? ⟨X, 1, none⟩ = some (.int .i64 5)) := fun W e => by
    have h1 := (e.block _ (lt_of_heap E1.out.2.1) (fun z => z)).trans E1.out.2.1
    have h2 := (e.block _ (lt_of_heap E1.out.2.2.1) (fun z => z)).trans E1.out.2.2.1
    have h3 := (e.block _ (lt_of_heap E1.out.2.2.2) (fun z => z)).trans E1.out.2.2.2
    obtain ⟨d0, d1, _, _⟩ := ins_cells h3
    refine ⟨?_, ?_, d0, d1⟩
    · rw [show (⟨ab, 0, none⟩ : Addr) = at_ ab 0 from rfl, cell_of_blk h1]; rfl
    · rw [show (⟨kb, 0, none⟩ : Addr) = at_ kb 0 from rfl, cell_of_blk h2]; rfl
  refine wp_region_head 11 (fun W => W.cell? ⟨ab, 0, none⟩ = some (.slice (some ⟨kb, 0, none⟩) 26 26) ∧ W.cell? ⟨kb, 0, none⟩ = some (.string i_push) ∧ W.cell? ⟨X, 0, none⟩ = some (.int .i64 1) ∧ W.cell? ⟨X, 1, none⟩ = some (.int .i64 5)) (by kernel_rfl) (by kernel_rfl) (SK.out _ (Ext.refl _ _).drew) (fun hO hHeld => ?_)
  have q1 := toHid ((Ext.refl Nope w1).drew)
  generalize w1.drew = w2 at *
  have sw : IntKind.i64.wrap 0 = 0 := rfl
  have s0 : ¬ 9223372036854775807 < (4 : Nat) + 1 := by omega
  refine wpAnyT_takeD (i := 0) (d := some 7) (v := ?_) hO rfl rfl (by kernel_rfl) (fun _ _ _ h => h) (Or.inl ⟨by rfl, ?_⟩) (by exact hHeld) ?_
  rotate_left
  · intro w' hSw
    obtain ⟨c1, c2, d0, d1⟩ := hSw
    go_simp
    try (with_reducible rfl)
  try simp only [Act.put, List.setIfInBounds_toArray, List.set_cons_zero, List.set_cons_succ]
  refine wpAnyT_takeD (i := 1) (d := some 8) (v := ?_) hO rfl rfl (by kernel_rfl) (fun _ _ _ h => h) (Or.inl ⟨by rfl, ?_⟩) (by exact hHeld) ?_
  rotate_left
  · intro w' hSw
    obtain ⟨c1, c2, d0, d1⟩ := hSw
    go_simp
    try (with_reducible rfl)
  try simp only [Act.put, List.setIfInBounds_toArray, List.set_cons_zero, List.set_cons_succ]
  refine wpAnyT_takeD (i := 2) (d := some 9) (v := ?_) hO rfl rfl (by kernel_rfl) (fun _ _ _ h => h) (Or.inl ⟨by rfl, ?_⟩) (by exact hHeld) ?_
  rotate_left
  · intro w' hSw
    obtain ⟨c1, c2, d0, d1⟩ := hSw
    go_simp
    try (with_reducible rfl)
  try simp only [Act.put, List.setIfInBounds_toArray, List.set_cons_zero, List.set_cons_succ]
  refine wpAnyT_takeD (i := 3) (d := some 10) (v := ?_) hO rfl rfl (by kernel_rfl) (fun _ _ _ h => h) (Or.inl ⟨by rfl, ?_⟩) (by exact hHeld) ?_
  rotate_left
  · intro w' hSw
    obtain ⟨c1, c2, d0, d1⟩ := hSw
    go_simp
    try (with_reducible rfl)
  try simp only [Act.put, List.setIfInBounds_toArray, List.set_cons_zero, List.set_cons_succ]
  refine wpAnyT_takeD (i := 4) (d := some 11) (v := ?_) hO rfl rfl (by kernel_rfl) (fun _ _ _ h => h) (Or.inl ⟨by rfl, ?_⟩) (by exact hHeld) ?_
  rotate_left
  · intro w' hSw
    obtain ⟨c1, c2, d0, d1⟩ := hSw
    go_simp
    try (with_reducible rfl)
  try simp only [Act.put, List.setIfInBounds_toArray, List.set_cons_zero, List.set_cons_succ]
  refine wpAnyT_takeD (i := 5) (d := some 12) (v := ?_) hO rfl rfl (by kernel_rfl) (fun _ _ _ h => h) (Or.inl ⟨by rfl, ?_⟩) (by exact hHeld) ?_
  rotate_left
  · intro w' hSw
    obtain ⟨c1, c2, d0, d1⟩ := hSw
    go_simp
    try (with_reducible rfl)
  try simp only [Act.put, List.setIfInBounds_toArray, List.set_cons_zero, List.set_cons_succ]
  refine wpAnyT_takeD (i := 6) (d := some 13) (v := ?_) hO rfl rfl (by kernel_rfl) (fun _ _ _ h => h) (Or.inl ⟨by rfl, ?_⟩) (by exact hHeld) ?_
  rotate_left
  · intro w' hSw
    obtain ⟨c1, c2, d0, d1⟩ := hSw
    go_simp
    try (with_reducible rfl)
  try simp only [Act.put, List.setIfInBounds_toArray, List.set_cons_zero, List.set_cons_succ]
  refine wpAnyT_takeD (i := 7) (d := some 14) (v := ?_) hO rfl rfl (by kernel_rfl) (fun _ _ _ h => h) (Or.inl ⟨by rfl, ?_⟩) (by exact hHeld) ?_
  rotate_left
  · intro w' hSw
    obtain ⟨c1, c2, d0, d1⟩ := hSw
    go_simp
    try (with_reducible rfl)
  try simp only [Act.put, List.setIfInBounds_toArray, List.set_cons_zero, List.set_cons_succ]
  refine wpAnyT_takeD (i := 8) (d := some 15) (v := ?_) hO rfl rfl (by kernel_rfl) (fun _ _ _ h => h) (Or.inl ⟨by rfl, ?_⟩) (by exact hHeld) ?_
  rotate_left
  · intro w' hSw
    obtain ⟨c1, c2, d0, d1⟩ := hSw
    go_simp
    try (with_reducible rfl)
  try simp only [Act.put, List.setIfInBounds_toArray, List.set_cons_zero, List.set_cons_succ]
  clear hHeld
  refine wpAnyT_one (i := 9) rfl (by kernel_rfl) (by rfl) (fun K hK => ?_)
  go_simp
  refine (HI.out _ (ext0 E1.out.1 q1.out)).mono ?_
  rintro e w3 ⟨rfl, e3⟩
  have H3 := toHid (show _ ∧ _ from ⟨ext0 E1.out.1 (ext0 q1.out e3), ext0 q1.out e3⟩)
  clear e3
  try go_simp
  have hS3 := SK.out _ H3.out.2
  refine hK.out _ _ hS3 (fun _ => ?_)
  clear hK K
  try simp only [Act.put, List.setIfInBounds_toArray, List.set_cons_zero, List.set_cons_succ]
  have s1 : ¬ 9223372036854775807 < 5 + t.size := by omega
  refine wpAnyT_takeD (i := 10) (d := some 17) (v := ?_) hO rfl rfl (by kernel_rfl) (fun _ _ _ h => h) (Or.inl ⟨by rfl, ?_⟩) (by exact hS3) ?_
  rotate_left
  · intro w' hSw
    obtain ⟨c1, c2, d0, d1⟩ := hSw
    go_simp
    try (with_reducible rfl)
  try simp only [Act.put, List.setIfInBounds_toArray, List.set_cons_zero, List.set_cons_succ]
  refine wpAnyT_done (by kernel_rfl) ⟨by kernel_rfl, ?_⟩
  simp only [List.drop_succ_cons, List.drop_zero]
  go_wp2_with fail
  go_ret
  exact ⟨rfl, H3.out.1⟩
set_option maxRecDepth 100000 in
set_option maxHeartbeats 4000000 in
theorem ins_setx {w : World} (G : Glob w) {ab kb : Nat} (hab : w.heap[ab]? = some (.cells #[.slice (some ⟨kb, 0, none⟩) 26 26] 59 (0, 0))) (hkb : w.heap[kb]? = some (.cells (kwords.map Value.string).toArray 9 (0, 0))) :
    Calls Tryz.prog 110 #[.agg #[.int .i64 17, .int .i64 1], ptr ab] w fun e w' => e = .returned (.string (insS (17, 1))) ∧ Ext Nope w w' := by
  have HI := toHid (fun (W : World) (e : Ext Nope w W) => itoa_calls (G.ext0 e) (n := 1) (by unfold i64; omega))
  have hsz := num_small (n := 1) (by unfold i64; omega)
  have hS : insS (17, 1) = i_setx ++ (⟨#[32]⟩ : ByteArray) ++ num 1 := rfl
  rw [hS]
  generalize num 1 = t at *
  have e1 : Ext Nope w (w.alloc (.cells #[.int .i64 17, .int .i64 1] 194)) := (Ext.refl _ _).alloc _
  have h1 := (e1.block _ (lt_of_heap hab) (fun z => z)).trans hab
  have h2 := (e1.block _ (lt_of_heap hkb) (fun z => z)).trans hkb
  have hz := heap_alloc_new w (.cells #[.int .i64 17, .int .i64 1] 194)
  have hal := lt_of_heap hab
  have E1 := toHid (show _ ∧ _ ∧ _ ∧ _ from ⟨e1, h1, h2, hz⟩)
  clear hab hkb h1 h2 hz e1 G hS
  go_enter Tryz.func110, Tryz.ntmps110
  go_wp2_with fail
  refine (numbered_17 _).mono ?_
  rintro e w2 ⟨rfl, rfl⟩
  obtain ⟨X, HX⟩ : ∃ X, Hid (w.heap.size = X) := ⟨_, rfl⟩
  rw [HX.out] at E1 ⊢
  generalize w.alloc (.cells #[.int .i64 17, .int .i64 1] 194) = w1 at *
  go_upto_region 2 with fail
  have SK : Hid (∀ W, Ext Nope w1 W → W.cell? ⟨ab, 0, none⟩ = some (.slice (some ⟨kb, 0, none⟩) 26 26) ∧ W.cell? ⟨kb, 16, none⟩ = some (.string i_setx) ∧ W.cell? ⟨X, 0, none⟩ = some (.int .i64 17) ∧ W.cell? ⟨X, 1, none⟩ = some (.int .i64 1)) := fun W e => by
    have h1 := (e.block _ (lt_of_heap E1.out.2.1) (fun z => z)).trans E1.out.2.1
    have h2 := (e.block _ (lt_of_heap E1.out.2.2.1) (fun z => z)).trans E1.out.2.2.1
    have h3 := (e.block _ (lt_of_heap E1.out.2.2.2) (fun z => z)).trans E1.out.2.2.2
    obtain ⟨d0, d1, _, _⟩ := ins_cells h3
    refine ⟨?_, ?_, d0, d1⟩
    · rw [show (⟨ab, 0, none⟩ : Addr) = at_ ab 0 from rfl, cell_of_blk h1]; rfl
    · rw [show (⟨kb, 16, none⟩ : Addr) = at_ kb 16 from rfl, cell_of_blk h2]; rfl
  refine wp_region_head 11 (fun W => W.cell? ⟨ab, 0, none⟩ = some (.slice (some ⟨kb, 0, none⟩) 26 26) ∧ W.cell? ⟨kb, 16, none⟩ = some (.string i_setx) ∧ W.cell? ⟨X, 0, none⟩ = some (.int .i64 17) ∧ W.cell? ⟨X, 1, none⟩ = some (.int .i64 1)) (by kernel_rfl) (by kernel_rfl) (SK.out _ (Ext.refl _ _).drew) (fun hO hHeld => ?_)
  have q1 := toHid ((Ext.refl Nope w1).drew)
  generalize w1.drew = w2 at *
  have sw : IntKind.i64.wrap 16 = 16 := rfl
  have s0 : ¬ 9223372036854775807 < (4 : Nat) + 1 := by omega
  refine wpAnyT_takeD (i := 0) (d := some 7) (v := ?_) hO rfl rfl (by kernel_rfl) (fun _ _ _ h => h) (Or.inl ⟨by rfl, ?_⟩) (by exact hHeld) ?_
  rotate_left
  · intro w' hSw
    obtain ⟨c1, c2, d0, d1⟩ := hSw
    go_simp
    try (with_reducible rfl)
  try simp only [Act.put, List.setIfInBounds_toArray, List.set_cons_zero, List.set_cons_succ]
  refine wpAnyT_takeD (i := 1) (d := some 8) (v := ?_) hO rfl rfl (by kernel_rfl) (fun _ _ _ h => h) (Or.inl ⟨by rfl, ?_⟩) (by exact hHeld) ?_
  rotate_left
  · intro w' hSw
    obtain ⟨c1, c2, d0, d1⟩ := hSw
    go_simp
    try (with_reducible rfl)
  try simp only [Act.put, List.setIfInBounds_toArray, List.set_cons_zero, List.set_cons_succ]
  refine wpAnyT_takeD (i := 2) (d := some 9) (v := ?_) hO rfl rfl (by kernel_rfl) (fun _ _ _ h => h) (Or.inl ⟨by rfl, ?_⟩) (by exact hHeld) ?_
  rotate_left
  · intro w' hSw
    obtain ⟨c1, c2, d0, d1⟩ := hSw
    go_simp
    try (with_reducible rfl)
  try simp only [Act.put, List.setIfInBounds_toArray, List.set_cons_zero, List.set_cons_succ]
  refine wpAnyT_takeD (i := 3) (d := some 10) (v := ?_) hO rfl rfl (by kernel_rfl) (fun _ _ _ h => h) (Or.inl ⟨by rfl, ?_⟩) (by exact hHeld) ?_
  rotate_left
  · intro w' hSw
    obtain ⟨c1, c2, d0, d1⟩ := hSw
    go_simp
    try (with_reducible rfl)
  try simp only [Act.put, List.setIfInBounds_toArray, List.set_cons_zero, List.set_cons_succ]
  refine wpAnyT_takeD (i := 4) (d := some 11) (v := ?_) hO rfl rfl (by kernel_rfl) (fun _ _ _ h => h) (Or.inl ⟨by rfl, ?_⟩) (by exact hHeld) ?_
  rotate_left
  · intro w' hSw
    obtain ⟨c1, c2, d0, d1⟩ := hSw
    go_simp
    try (with_reducible rfl)
  try simp only [Act.put, List.setIfInBounds_toArray, List.set_cons_zero, List.set_cons_succ]
  refine wpAnyT_takeD (i := 5) (d := some 12) (v := ?_) hO rfl rfl (by kernel_rfl) (fun _ _ _ h => h) (Or.inl ⟨by rfl, ?_⟩) (by exact hHeld) ?_
  rotate_left
  · intro w' hSw
    obtain ⟨c1, c2, d0, d1⟩ := hSw
    go_simp
    try (with_reducible rfl)
  try simp only [Act.put, List.setIfInBounds_toArray, List.set_cons_zero, List.set_cons_succ]
  refine wpAnyT_takeD (i := 6) (d := some 13) (v := ?_) hO rfl rfl (by kernel_rfl) (fun _ _ _ h => h) (Or.inl ⟨by rfl, ?_⟩) (by exact hHeld) ?_
  rotate_left
  · intro w' hSw
    obtain ⟨c1, c2, d0, d1⟩ := hSw
    go_simp
    try (with_reducible rfl)
  try simp only [Act.put, List.setIfInBounds_toArray, List.set_cons_zero, List.set_cons_succ]
  refine wpAnyT_takeD (i := 7) (d := some 14) (v := ?_) hO rfl rfl (by kernel_rfl) (fun _ _ _ h => h) (Or.inl ⟨by rfl, ?_⟩) (by exact hHeld) ?_
  rotate_left
  · intro w' hSw
    obtain ⟨c1, c2, d0, d1⟩ := hSw
    go_simp
    try (with_reducible rfl)
  try simp only [Act.put, List.setIfInBounds_toArray, List.set_cons_zero, List.set_cons_succ]
  refine wpAnyT_takeD (i := 8) (d := some 15) (v := ?_) hO rfl rfl (by kernel_rfl) (fun _ _ _ h => h) (Or.inl ⟨by rfl, ?_⟩) (by exact hHeld) ?_
  rotate_left
  · intro w' hSw
    obtain ⟨c1, c2, d0, d1⟩ := hSw
    go_simp
    try (with_reducible rfl)
  try simp only [Act.put, List.setIfInBounds_toArray, List.set_cons_zero, List.set_cons_succ]
  clear hHeld
  refine wpAnyT_one (i := 9) rfl (by kernel_rfl) (by rfl) (fun K hK => ?_)
  go_simp
  refine (HI.out _ (ext0 E1.out.1 q1.out)).mono ?_
  rintro e w3 ⟨rfl, e3⟩
  have H3 := toHid (show _ ∧ _ from ⟨ext0 E1.out.1 (ext0 q1.out e3), ext0 q1.out e3⟩)
  clear e3
  try go_simp
  have hS3 := SK.out _ H3.out.2
  refine hK.out _ _ hS3 (fun _ => ?_)
  clear hK K
  try simp only [Act.put, List.setIfInBounds_toArray, List.set_cons_zero, List.set_cons_succ]
  have s1 : ¬ 9223372036854775807 < 5 + t.size := by omega
  refine wpAnyT_takeD (i := 10) (d := some 17) (v := ?_) hO rfl rfl (by kernel_rfl) (fun _ _ _ h => h) (Or.inl ⟨by rfl, ?_⟩) (by exact hS3) ?_
  rotate_left
  · intro w' hSw
    obtain ⟨c1, c2, d0, d1⟩ := hSw
    go_simp
    try (with_reducible rfl)
  try simp only [Act.put, List.setIfInBounds_toArray, List.set_cons_zero, List.set_cons_succ]
  refine wpAnyT_done (by kernel_rfl) ⟨by kernel_rfl, ?_⟩
  simp only [List.drop_succ_cons, List.drop_zero]
  go_wp2_with fail
  go_ret
  exact ⟨rfl, H3.out.1⟩
end Go.Proofs.YtajebdpalnpjdaaGreatDoor
namespace Go.Proofs.YtajebdpalnpjdaaGreatDoor
open Go.RowKit
attribute [local go_sem] alloc_drewN setCell_drewN

/-- What an operation yields. -/
inductive Desc where
  | v (x : Value)
  | d (n : Nat) (x : Dat)
  | o (base n : Nat) (ss : List ByteArray)
def Is : Desc → Value → World → Prop
  | .v x, u, _ => u = x
  | .d n x, u, w => ∃ a c, u = .slice a n c ∧ Rd (fun _ => True) w [u] x
  | .o b n ss, u, w => ∃ a c, u = .slice a n c ∧ OwnS w b u ss
theorem Is.ext {δ : Desc} {u : Value} {w w' : World} (h : Is δ u w) (e : Ext Nope w w') : Is δ u w' := by
  cases δ with
  | v x => exact h
  | d n x =>
    obtain ⟨a, c, h1, h2⟩ := h
    exact ⟨a, c, h1, h2.ext0 e⟩
  | o b n ss =>
    obtain ⟨a, c, h1, h2⟩ := h
    exact ⟨a, c, h1, h2.ext0 e⟩
theorem OwnS.lit (w : World) (l : List ByteArray) (base : Nat) (hb : base ≤ w.heap.size) (hl : l.length ≤ 1000) : OwnS (w.alloc (.cells (l.map Value.string).toArray 9)) base (.slice (some ⟨w.heap.size, 0, none⟩) l.length l.length) l := by
  have := World.ownsRow_lit (base := base) (e := 9) (size := 1) w (l.map Value.string).toArray l.length hb (by unfold maxLen; omega) (by simp)
  simpa [OwnS] using this
theorem Is.strs {w : World} {base : Nat} {v : Value} {ss : List ByteArray} (h : OwnS w base v ss) (hs : ∀ s ∈ ss, s.size ≤ 1000000) (n : Nat) (hn : ss.length = n) : Is (.d n (strsD ss)) v w := by
  obtain ⟨a, c, hv, _⟩ := own_gen (show w.ownsRow _ _ _ v ss.length _ from h)
  rw [hn] at hv
  exact ⟨a, c, hv, OwnS.rd h (fun _ _ => trivial) (fun s hs' => by have := hs s hs'; unfold maxLen; omega)⟩
theorem Is.strB {w : World} {b T : Nat} {l : List ByteArray} (h : w.heap[b]? = some (.cells (l.map Value.string).toArray T (0, 0))) (hs : ∀ s ∈ l, s.size ≤ 1000000) (n : Nat) (hn : l.length = n) (hl : n ≤ 1000) : Is (.d n (strsD l)) (.slice (some ⟨b, 0, none⟩) n n) w := by
  subst hn
  exact ⟨_, _, rfl, Rd.strs h trivial (fun s hs' => by have := hs s hs'; unfold maxLen; omega) _ (Nat.le_refl _) (by omega)⟩
theorem Is.intB {w : World} {b T : Nat} {l : List Int} (h : w.heap[b]? = some (.cells (l.map fun n => Value.int .i64 n).toArray T (0, 0))) (hs : ∀ n ∈ l, i64 n) (n : Nat) (hn : l.length = n) (hl : n ≤ 1000) : Is (.d n (intsD l)) (.slice (some ⟨b, 0, none⟩) n n) w := by
  subst hn
  exact ⟨_, _, rfl, Rd.intsB h trivial hs _ (Nat.le_refl _) (by omega)⟩
theorem Rd.lists {w : World} {b T : Nat} {vs : List Value} {ls : List (List ByteArray)} (h : w.heap[b]? = some (.cells vs.toArray T (0, 0))) (hv : ∀ (k : Nat) (l : List ByteArray), ls[k]? = some l → ∃ u, vs[k]? = some u ∧ Rd (fun _ => True) w [u] (strsD l)) (hl : ls.length ≤ 1000) : Rd (fun _ => True) w [.slice (some ⟨b, 0, none⟩) ls.length ls.length] (.l 1 (ls.map strsD)) := by
  have hm : ∀ (k : Nat) (x : Dat), (ls.map strsD)[k]? = some x → ∃ l, ls[k]? = some l ∧ x = strsD l := fun k x hk => by
    rw [List.getElem?_map] at hk
    obtain ⟨n, hn, rfl⟩ := Option.map_eq_some_iff.1 hk
    exact ⟨n, hn, rfl⟩
  have := Rd.list (A := fun _ => True) (w := w) (sz := 1) (xs := ls.map strsD) (some ⟨b, 0, none⟩) ls.length b 0 (fun k => [vs.getD k undef]) (by rw [List.length_map]; exact Nat.le_refl _) (by omega) (fun _ => ⟨rfl, trivial, lt_of_heap h⟩) (fun _ _ _ => rfl)
    (fun k x hk j u hu => by
      obtain ⟨l, hl', rfl⟩ := hm k x hk
      obtain ⟨u', hu', _⟩ := hv k l hl'
      match j, hu with
      | 0, hu =>
        simp only [List.getElem?_cons_zero, Option.some.injEq] at hu
        rw [show (⟨b, 0 + k * 1 + 0, none⟩ : Addr) = at_ b k by simp, cell_of_blk h]
        simp [hu', ← hu, List.getD_eq_getElem?_getD])
    (fun k x hk => by
      obtain ⟨l, hl', rfl⟩ := hm k x hk
      obtain ⟨u', hu', hr⟩ := hv k l hl'
      simp only [List.getD_eq_getElem?_getD, hu', Option.getD_some]
      exact hr)
  rwa [List.length_map] at this
theorem Is.lists {w : World} {b T : Nat} {vs : List Value} {ls : List (List ByteArray)} (h : w.heap[b]? = some (.cells vs.toArray T (0, 0))) (n : Nat) (hn : ls.length = n) (hl : n ≤ 1000) (hv : ∀ (k : Nat) (l : List ByteArray), ls[k]? = some l → ∃ u, vs[k]? = some u ∧ Rd (fun _ => True) w [u] (strsD l)) : Is (.d n (.l 1 (ls.map strsD))) (.slice (some ⟨b, 0, none⟩) n n) w := by
  subst hn
  exact ⟨_, _, rfl, Rd.lists h hv hl⟩
/-- A short text. -/
theorem num_1m {n : Int} (h : i64 n) : (num n).size ≤ 1000000 := by have := num_small h; omega
/-- The first line of a font. -/
def fontSS (nm : ByteArray) (ver : Int) : List (List ByteArray) := [[k_font, nm], [num ver]]
set_option maxRecDepth 100000 in
set_option maxHeartbeats 8000000 in
/-- writer.core, of cores without axes and regions -/
theorem core_write {w : World} (G : Glob w) {B b : Nat} {l : List UInt8} (h : WB w B b l) (hB : B ≤ w.heap.size) (hlen : l.length ≤ 100000) {nm rt : ByteArray} {ver cnt : Int} (hnm : nm.size ≤ 1000) (hver : i64 ver) {a2 a3 a5 a6 a7 : Option Addr} {c2 c3 n5 c5 n6 c6 n7 c7 : Nat} :
    Calls Tryz.prog 36 #[ptr b, .agg #[.string nm, .int .i64 ver, .slice a2 0 c2, .slice a3 0 c3, .int .i64 cnt, .slice a5 n5 c5, .slice a6 n6 c6, .slice a7 n7 c7, .string rt]] w fun e w' => e = .returned (.tuple #[]) ∧ WB w' B b (l ++ lineC (fontSS nm ver).flatten) ∧ Ext (Wr w B b) w w' := by
  have e1 : Ext Nope w (w.alloc (.cells #[.string nm, .int .i64 ver, .slice a2 0 c2, .slice a3 0 c3, .int .i64 cnt, .slice a5 n5 c5, .slice a6 n6 c6, .slice a7 n7 c7, .string rt] 32)) := (Ext.refl _ _).alloc _
  have hz1 := heap_alloc_new w (.cells #[.string nm, .int .i64 ver, .slice a2 0 c2, .slice a3 0 c3, .int .i64 cnt, .slice a5 n5 c5, .slice a6 n6 c6, .slice a7 n7 c7, .string rt] 32)
  have hbl := h.le
  have H1 := toHid (show _ ∧ _ ∧ _ ∧ _ ∧ _ from ⟨e1, hz1, h.ext0 e1, G.ext0 e1, hB⟩)
  have HN := toHid (show _ ∧ _ ∧ _ from ⟨hnm, hver, hlen⟩)
  clear e1 hz1 h G hB hnm hver hlen
  go_enter Tryz.func36, Tryz.ntmps36
  go_upto_region 1 with fail
  obtain ⟨X, HX⟩ : ∃ X, Hid (w.heap.size = X) := ⟨_, rfl⟩
  rw [HX.out] at H1 ⊢
  generalize w.alloc (.cells #[.string nm, .int .i64 ver, .slice a2 0 c2, .slice a3 0 c3, .int .i64 cnt, .slice a5 n5 c5, .slice a6 n6 c6, .slice a7 n7 c7, .string rt] 32) = w1 at *
  have SK : Hid (∀ W, Ext Nope w1 W → W.cell? ⟨X, 0, none⟩ = some (.string nm) ∧ W.cell? ⟨X, 1, none⟩ = some (.int .i64 ver)) := fun W e => by
    obtain ⟨z0, z1, _⟩ := core_cells ((e.block _ (lt_of_heap H1.out.2.1) (fun z => z)).trans H1.out.2.1)
    exact ⟨z0, z1⟩
  refine wp_region_inv 10 [8, 9, 10, 11, 12, 13, 14, 15, 16, 17] (fun W => Ext Nope w1 W) (fun i v W => Is ([.v (ptr b), .v (.pointer (some ⟨X, 0, none⟩)), .v (.string nm), .d 2 (strsD [k_font, nm]), .d 2 (strsD [k_font, nm]), .v (.pointer (some ⟨X, 1, none⟩)), .v (.int .i64 ver), .d 1 (intsD [ver]), .d 1 (strsD ([ver].map num)), .d 2 (.l 1 ((fontSS nm ver).map strsD))].getD i (.v undef)) v W) (by kernel_rfl) (by kernel_rfl) (by kernel_rfl) (by kernel_rfl) (Ext.refl _ _).drew ?step ?final
  case step =>
    intro i oi hi hoi y W hE hdep K hK
    obtain ⟨c0, c1⟩ := SK.out W hE
    match i, hi, hoi with
    | 0, _, hoi =>
      obtain rfl := (Option.some.inj hoi).symm
      have hK := hK.out
      simp only [Fill, fillTmps, Act.put, List.setIfInBounds_toArray, List.set_cons_zero, List.set_cons_succ] at hK ⊢
      clear hdep
      replace hK := toHid hK
      go_simp
      exact hK.out _ _ hE (fun _ _ z => z) rfl
    | 1, _, hoi =>
      obtain rfl := (Option.some.inj hoi).symm
      have hK := hK.out
      simp only [Fill, fillTmps, Act.put, List.setIfInBounds_toArray, List.set_cons_zero, List.set_cons_succ] at hK ⊢
      clear hdep
      replace hK := toHid hK
      go_simp
      exact hK.out _ _ hE (fun _ _ z => z) rfl
    | 2, _, hoi =>
      obtain rfl := (Option.some.inj hoi).symm
      have hd1 : Is (.v (.pointer (some ⟨X, 0, none⟩))) (y 1) W := hdep ⟨1, .data⟩ (by simp) rfl
      have hd1 : y 1 = (.pointer (some ⟨X, 0, none⟩)) := hd1
      have hK := hK.out
      simp only [Fill, fillTmps, Act.put, List.setIfInBounds_toArray, List.set_cons_zero, List.set_cons_succ, hd1] at hK ⊢
      clear hdep
      replace hK := toHid hK
      go_simp
      exact hK.out _ _ hE (fun _ _ z => z) rfl
    | 3, _, hoi =>
      obtain rfl := (Option.some.inj hoi).symm
      have hd2 : Is (.v (.string nm)) (y 2) W := hdep ⟨2, .data⟩ (by simp) rfl
      have hd2 : y 2 = (.string nm) := hd2
      have hK := hK.out
      simp only [Fill, fillTmps, Act.put, List.setIfInBounds_toArray, List.set_cons_zero, List.set_cons_succ, hd2] at hK ⊢
      clear hdep
      replace hK := toHid hK
      go_simp
      refine hK.out _ _ (hE.alloc _) (fun _ _ z => Is.ext z ((Ext.refl _ _).alloc _)) (Is.strB (l := [k_font, nm]) (heap_alloc_new W _) ?_ 2 rfl (by omega))
      intro s hs
      simp only [List.mem_cons, List.not_mem_nil, or_false] at hs
      rcases hs with rfl | rfl
      · decide
      · have := HN.out.1; omega
    | 4, _, hoi =>
      obtain rfl := (Option.some.inj hoi).symm
      have hd3 : Is (.d 2 (strsD [k_font, nm])) (y 3) W := hdep ⟨3, .data⟩ (by simp) rfl
      obtain ⟨ia3, ic3, hv3, hd3⟩ := hd3
      have hK := hK.out
      simp only [Fill, fillTmps, Act.put, List.setIfInBounds_toArray, List.set_cons_zero, List.set_cons_succ, hv3] at hK ⊢
      rw [hv3] at hd3
      clear hdep
      replace hK := toHid hK
      go_simp
      refine (parts_write _ _ _ _).mono ?_
      rintro e w2 ⟨rfl, rfl⟩
      try go_simp
      exact hK.out _ _ hE (fun _ _ z => z) ⟨_, _, rfl, hd3⟩
    | 5, _, hoi =>
      obtain rfl := (Option.some.inj hoi).symm
      have hK := hK.out
      simp only [Fill, fillTmps, Act.put, List.setIfInBounds_toArray, List.set_cons_zero, List.set_cons_succ] at hK ⊢
      clear hdep
      replace hK := toHid hK
      go_simp
      exact hK.out _ _ hE (fun _ _ z => z) rfl
    | 6, _, hoi =>
      obtain rfl := (Option.some.inj hoi).symm
      have hd5 : Is (.v (.pointer (some ⟨X, 1, none⟩))) (y 5) W := hdep ⟨5, .data⟩ (by simp) rfl
      have hd5 : y 5 = (.pointer (some ⟨X, 1, none⟩)) := hd5
      have hK := hK.out
      simp only [Fill, fillTmps, Act.put, List.setIfInBounds_toArray, List.set_cons_zero, List.set_cons_succ, hd5] at hK ⊢
      clear hdep
      replace hK := toHid hK
      go_simp
      exact hK.out _ _ hE (fun _ _ z => z) rfl
    | 7, _, hoi =>
      obtain rfl := (Option.some.inj hoi).symm
      have hd6 : Is (.v (.int .i64 ver)) (y 6) W := hdep ⟨6, .data⟩ (by simp) rfl
      have hd6 : y 6 = (.int .i64 ver) := hd6
      have hK := hK.out
      simp only [Fill, fillTmps, Act.put, List.setIfInBounds_toArray, List.set_cons_zero, List.set_cons_succ, hd6] at hK ⊢
      clear hdep
      replace hK := toHid hK
      go_simp
      refine hK.out _ _ (hE.alloc _) (fun _ _ z => Is.ext z ((Ext.refl _ _).alloc _)) (Is.intB (l := [ver]) (heap_alloc_new W _) ?_ 1 rfl (by omega))
      intro n hn
      simp at hn
      subst hn
      exact HN.out.2.1
    | 8, _, hoi =>
      obtain rfl := (Option.some.inj hoi).symm
      have hd7 : Is (.d 1 (intsD [ver])) (y 7) W := hdep ⟨7, .data⟩ (by simp) rfl
      obtain ⟨ia7, ic7, hv7, hd7⟩ := hd7
      have hK := hK.out
      simp only [Fill, fillTmps, Act.put, List.setIfInBounds_toArray, List.set_cons_zero, List.set_cons_succ, hv7] at hK ⊢
      rw [hv7] at hd7
      clear hdep
      replace hK := toHid hK
      go_simp
      refine (numbers_write (H1.out.2.2.2.1.ext0 hE) hd7 (fun n hn => by simp at hn; subst hn; exact HN.out.2.1) (by simp)).mono ?_
      rintro e w2 ⟨v2, rfl, o2, e2⟩
      try go_simp
      exact hK.out _ _ (ext0 hE e2) (fun _ _ z => Is.ext z e2) (Is.strs o2 (fun s hs => by simp at hs; subst hs; exact num_1m HN.out.2.1) 1 rfl)
    | 9, _, hoi =>
      obtain rfl := (Option.some.inj hoi).symm
      have hd4 : Is (.d 2 (strsD [k_font, nm])) (y 4) W := hdep ⟨4, .data⟩ (by simp) rfl
      have hd8 : Is (.d 1 (strsD ([ver].map num))) (y 8) W := hdep ⟨8, .data⟩ (by simp) rfl
      obtain ⟨ia4, ic4, hv4, hd4⟩ := hd4
      obtain ⟨ia8, ic8, hv8, hd8⟩ := hd8
      have hK := hK.out
      simp only [Fill, fillTmps, Act.put, List.setIfInBounds_toArray, List.set_cons_zero, List.set_cons_succ, hv4, hv8] at hK ⊢
      rw [hv4] at hd4
      rw [hv8] at hd8
      clear hdep
      replace hK := toHid hK
      go_simp
      refine hK.out _ _ (hE.alloc _) (fun _ _ z => Is.ext z ((Ext.refl _ _).alloc _)) (Is.lists (ls := fontSS nm ver) (heap_alloc_new W _) 2 rfl (by omega) ?_)
      intro k l hk
      match k, hk with
      | 0, hk => cases hk; exact ⟨_, rfl, hd4.ext0 ((Ext.refl _ _).alloc _)⟩
      | 1, hk => cases hk; exact ⟨_, rfl, hd8.ext0 ((Ext.refl _ _).alloc _)⟩
    | i + 10, hi, _ => exact absurd hi (by omega)
  case final =>
    intro y W hE hR
    have hd0 : Is (.v (ptr b)) (y 0) W := hR 0 (by omega)
    have hd9 : Is (.d 2 (.l 1 ((fontSS nm ver).map strsD))) (y 9) W := hR 9 (by omega)
    have hd0 : y 0 = (ptr b) := hd0
    obtain ⟨ia9, ic9, hv9, hd9⟩ := hd9
    clear hR
    simp only [Fill, fillTmps, Act.put, List.setIfInBounds_toArray, List.set_cons_zero, List.set_cons_succ, hd0, hv9]
    rw [hv9] at hd9
    simp only [List.drop_succ_cons, List.drop_zero]
    go_wp2_with fail
    refine (line_calls (H1.out.2.2.1.ext0 hE) (Nat.le_trans H1.out.2.2.2.2 (by have := HX.out; have := hE.size; have := lt_of_heap H1.out.2.1; omega)) hd9 (by simp [fontSS]) (by simp [fontSS]) (by simp [fontSS]) ?_ ?_ (by have := HN.out.2.2; omega)).mono ?_
    · have hh : ∀ b : ByteArray, b.size = b.data.toList.length := fun b => rfl
      have h1 := HN.out.1
      have h2 := num_small HN.out.2.1
      have e : (joinB 32 (fontSS nm ver).flatten).size = 4 + 1 + nm.size + 1 + (num ver).size := by
        rw [hh, hh, hh, joinB_list]
        simp [fontSS, joinC]
        omega
      omega
    · intro s hs
      simp [fontSS] at hs
      rcases hs with rfl | rfl | rfl
      · decide
      · have := HN.out.1; omega
      · exact num_1m HN.out.2.1
    rintro e w2 ⟨rfl, b2, e2⟩
    have hz2 := (e2.block _ (Nat.lt_of_lt_of_le (lt_of_heap H1.out.2.1) hE.size) (Wr.other ((hE.block _ (lt_of_heap H1.out.2.1) (fun z => z)).trans H1.out.2.1) (by decide) (by have := HX.out; omega))).trans ((hE.block _ (lt_of_heap H1.out.2.1) (fun z => z)).trans H1.out.2.1)
    obtain ⟨c0, c1, c2, c3, c4, c5, c6, c7, c8⟩ := core_cells hz2
    have H2 := toHid (show _ ∧ _ from ⟨b2, Wr.trans ((ext0 H1.out.1 hE).mono (fun _ z => z.elim)) e2⟩)
    clear b2 e2 hz2 hd9 hE SK H1 HN
    go_wp2_with fail
    go_loopw [22] (fun i wr => i = .int .i64 0 ∧ wr = w2) (fun _ _ => 0)
    case atStart => exact ⟨rfl, rfl⟩
    case round =>
      obtain ⟨rfl, hw⟩ := hrel
      have hw := hw.symm
      subst hw
      go_wp2_with fail
      go_loopw [48] (fun i wr => i = .int .i64 0 ∧ wr = w2) (fun _ _ => 0)
      case atStart => exact ⟨rfl, rfl⟩
      case round =>
        obtain ⟨rfl, hw⟩ := hrel
        have hw := hw.symm
        subst hw
        go_wp2_with fail
        go_end0
        exact ⟨rfl, H2.out⟩
end Go.Proofs.YtajebdpalnpjdaaGreatDoor
