/-
  stack.Check of two programs.
  stack.Check of two programs.
  The ranged machine: spans, steps, what is pushed and set.
-/
import Derived.Test.YtajebdpalnpjdaaGreatDoorM03
import Derived.Test.YtajebdpalnpjdaaGreatDoorM06
import Derived.Test.YtajebdpalnpjdaaGreatDoorM18
import Derived.Test.YtajebdpalnpjdaaGreatDoorM00
import Derived.Lib.SliceRun
namespace Go.Proofs.YtajebdpalnpjdaaGreatDoor
open Go.RowKit
attribute [local go_sem] alloc_drewN setCell_drewN

def progA : List (Int × Int) := [(1, 5), (17, 1)]
def progB : List (Int × Int) := [(23, 0)]
theorem Rd.pairs_at {A : Nat → Prop} {w : World} {a : Option Addr} {n cap : Nat} {l : List (Int × Int)} (h : Rd A w [.slice a n cap] (.l 2 (l.map pairD))) {k : Nat} {p : Int × Int} (hk : l[k]? = some p) : ∃ b off, a = some ⟨b, off, none⟩ ∧ b < w.heap.size ∧ w.cell? ⟨b, off + k * 2, none⟩ = some (.int .i64 p.1) ∧ w.cell? ⟨b, off + k * 2 + 1, none⟩ = some (.int .i64 p.2) := by
  obtain ⟨a', cap', hv, _, _, hl⟩ := h.l_inv
  simp only [List.cons.injEq, Value.slice.injEq, and_true] at hv
  obtain ⟨rfl, _, rfl⟩ := hv
  have hlt := (List.getElem?_eq_some_iff.1 hk).1
  obtain ⟨b, off, rfl, _, hb, hat⟩ := hl (by rw [List.length_map]; omega)
  obtain ⟨us, _, hu, hr⟩ := hat k (pairD p) (by rw [List.getElem?_map, hk]; rfl)
  obtain ⟨c2, rfl, _, hr2⟩ := (show Rd A w us (.r [.i p.1, .i p.2]) from hr).ri
  obtain ⟨c3, rfl, _, _⟩ := hr2.ri
  exact ⟨b, off, rfl, hb, by simpa using hu 0 _ rfl, by simpa using hu 1 _ rfl⟩
set_option maxHeartbeats 1000000 in
theorem ssmall_yes (n : Int) (h : -1000 ≤ n ∧ n ≤ 1000) (w : World) : Calls Tryz.prog 227 #[.int .i64 n] w fun e w' => e = .returned (.bool true) ∧ w = w' := by
  go_enter Tryz.func227, Tryz.ntmps227
  have s1 : -1048576 ≤ n := by omega
  have s2 : n ≤ 1048576 := by omega
  go_wp2_with fail
  go_ret
  exact ⟨rfl, rfl⟩
set_option maxHeartbeats 1000000 in
theorem swithin_yes (n m : Int) (h : 0 ≤ n ∧ n < m) (w : World) : Calls Tryz.prog 228 #[.int .i64 n, .int .i64 m] w fun e w' => e = .returned (.bool true) ∧ w = w' := by
  obtain ⟨h1, h2⟩ := h
  go_enter Tryz.func228, Tryz.ntmps228
  go_wp2_with fail
  go_ret
  exact ⟨rfl, rfl⟩
set_option maxHeartbeats 2000000 in
/-- stack.blocks of a program without blocks -/
theorem blocks_A {A : Nat → Prop} {w : World} {v : Value} (h : Rd A w [v] (.l 2 (progA.map pairD))) : Calls Tryz.prog 229 #[v] w fun e w' => (∃ M, e = .returned (.tuple #[.map (some M), .bool true])) ∧ Ext Nope w w' := by
  have hmm := @run_makeMap Tryz.prog
  obtain ⟨a, cap, hv, hc, _⟩ := h.len
  have hv : v = .slice a 2 cap := hv
  have hc : 2 ≤ cap := hc
  subst hv
  have HR := toHid h
  clear h
  go_enter Tryz.func229, Tryz.ntmps229
  go_wp2_with fail
  go_loopw [5, 12] (fun o i wr => o = .slice none 0 0 ∧ (∃ k : Nat, i = .int .i64 k ∧ k ≤ 2) ∧ Ext Nope w wr) (fun _ i _ => 2 - (intOf i).toNat)
  case atStart => exact ⟨rfl, ⟨0, rfl, by omega⟩, (Ext.refl _ _).alloc _⟩
  case round =>
    obtain ⟨rfl, ⟨k, rfl, hk⟩, hE⟩ := hrel
    rename World => wr
    have HE := toHid hE
    clear hE
    match k, hk with
    | 0, _ =>
      obtain ⟨b, off, rfl, hb, c0, c1⟩ := (HR.out.ext0 HE.out).pairs_at (k := 0) (p := (1, 5)) rfl
      have c0 : wr.cell? ⟨b, off, none⟩ = some (.int .i64 1) := c0
      have c1 : wr.cell? ⟨b, off + 1, none⟩ = some (.int .i64 5) := c1
      go_wp2_with fail
      refine ⟨⟨rfl, ⟨1, rfl, by omega⟩, HE.out.alloc _⟩, ?_⟩
      simp [intOf]
    | 1, _ =>
      obtain ⟨b, off, rfl, hb, c0, c1⟩ := (HR.out.ext0 HE.out).pairs_at (k := 1) (p := (17, 1)) rfl
      have c0 : wr.cell? ⟨b, off + 2, none⟩ = some (.int .i64 17) := c0
      have c1 : wr.cell? ⟨b, off + 3, none⟩ = some (.int .i64 1) := c1
      go_wp2_with fail
      refine ⟨⟨rfl, ⟨2, rfl, by omega⟩, HE.out.alloc _⟩, ?_⟩
      simp [intOf]
    | 2, _ =>
      go_wp2_with fail
      go_ret2
      exact ⟨⟨_, rfl⟩, HE.out⟩
end Go.Proofs.YtajebdpalnpjdaaGreatDoor
namespace Go.Proofs.YtajebdpalnpjdaaGreatDoor
open Go.RowKit
attribute [local go_sem] alloc_drewN setCell_drewN

def slLen' : Value → Nat
  | .slice _ n _ => n
  | _ => 0
theorem alloc_size2 (w : World) (o : Obj) : (w.alloc o).heap.size = w.heap.size + 1 := by simp
set_option maxRecDepth 100000 in
set_option maxHeartbeats 2000000 in
/-- stack.blocks of a program with an open block -/
theorem blocks_B {A : Nat → Prop} {w : World} {v : Value} (h : Rd A w [v] (.l 2 (progB.map pairD))) : Calls Tryz.prog 229 #[v] w fun e w' => (∃ M, e = .returned (.tuple #[.map (some M), .bool false])) ∧ Ext Nope w w' := by
  have hmm := @run_makeMap Tryz.prog
  obtain ⟨a, cap, hv, hc, _⟩ := h.len
  have hv : v = .slice a 1 cap := hv
  have hc : 1 ≤ cap := hc
  subst hv
  have HR := toHid h
  clear h
  obtain ⟨i0, hi, hz0, hz1, hz2⟩ := info_parts info3
  have HI := toHid (show _ ∧ _ ∧ _ ∧ _ from ⟨hi, hz0, hz1, hz2⟩)
  clear hi hz0 hz1 hz2
  go_enter Tryz.func229, Tryz.ntmps229
  go_wp2_with fail
  go_loopw [5, 12] (fun o i wr => (∃ k : Nat, i = .int .i64 k ∧ k ≤ 1 ∧ OwnI wr w.heap.size o (List.replicate k 0)) ∧ Ext Nope w wr) (fun _ i _ => 2 - (intOf i).toNat)
  case atStart => exact ⟨⟨0, rfl, by omega, OwnI.nil _ _⟩, (Ext.refl _ _).alloc _⟩
  case round =>
    obtain ⟨⟨k, rfl, hk, hO⟩, hE⟩ := hrel
    rename World => wr
    have HE := toHid hE
    clear hE
    match k, hk with
    | 0, _ =>
      obtain ⟨av, cv, hv, _⟩ := own_gen (show wr.ownsRow w.heap.size 3 1 u5 0 _ from hO)
      subst hv
      have hown : wr.ownsRow w.heap.size 3 1 (.slice av 0 cv) 0 [] := hO
      have HOwn := toHid hown
      obtain ⟨b, off, rfl, hb, c0, c1⟩ := (HR.out.ext0 HE.out).pairs_at (k := 0) (p := (23, 0)) rfl
      have c0 : wr.cell? ⟨b, off, none⟩ = some (.int .i64 23) := c0
      have c1 : wr.cell? ⟨b, off + 1, none⟩ = some (.int .i64 0) := c1
      clear hO hown
      obtain ⟨hi, hz0, hz1, hz2⟩ := HI.out
      go_wp2_with (first | (at_builtin; refine wpList_append_own _ rfl (.tmp 25) (.tmp 27) 24 rfl w.heap.size 3 i0 _ 1 8 Tryz.underlying24 hi hz0 hz1 hz2 rfl (by decide) _ _ _ rfl ((HOwn.out.alloc _).alloc _) ⟨wr.heap.size + 1, 0, none⟩ 1 1 (intCells [0]) rfl rfl (ints_at (heap_alloc_at _ _ _ (alloc_size2 wr _).symm)) (int_one _) (by unfold maxLen; omega) (by omega) (by have h1 := HE.out.size; simp; omega) ?_))
      intro v' w' hown' hgrow _
      have HW := toHid (show _ ∧ _ from ⟨(show OwnI w' w.heap.size v' (List.replicate 1 0) from hown'), Ext.grown ((HE.out.alloc _).alloc _) hgrow (fun g hg hlt => absurd hlt (by have := (World.ownsRow.lt HOwn.out g hg).1; omega))⟩)
      clear hown' hgrow hi hz0 hz1 hz2
      go_wp2_with fail
      refine ⟨⟨⟨1, rfl, by omega, HW.out.1⟩, HW.out.2⟩, ?_⟩
      simp [intOf]
    | 1, _ =>
      obtain ⟨av, cv, hv, _⟩ := own_gen (show wr.ownsRow w.heap.size 3 1 u5 1 _ from hO)
      subst hv
      clear hO
      go_wp2_with fail
      go_ret2
      exact ⟨⟨_, rfl⟩, HE.out⟩
set_option maxHeartbeats 2000000 in
/-- stack.Check of a program that is right -/
theorem scheck_A {A : Nat → Prop} {w : World} {v : Value} (h : Rd A w [v] (.l 2 (progA.map pairD))) {n : Nat} (h1 : 2 ≤ n) (h2 : n ≤ 40) : Calls Tryz.prog 179 #[v, .int .i64 0, .int .i64 n] w fun e w' => e = .returned (.int .i64 0) ∧ Ext Nope w w' := by
  obtain ⟨a, cap, hv, hc, _⟩ := h.len
  have hv : v = .slice a 2 cap := hv
  have hc : 2 ≤ cap := hc
  subst hv
  have HR := toHid h
  clear h
  have n1 : (2 : Int) ≤ (n : Int) := by omega
  have n2 : (n : Int) ≤ 40 := by omega
  go_enter Tryz.func179, Tryz.ntmps179
  go_wp2_with fail
  go_loopw [28] (fun i wr => (∃ k : Nat, i = .int .i64 k ∧ k ≤ 2) ∧ Ext Nope w wr) (fun i _ => 2 - (intOf i).toNat)
  case atStart => exact ⟨⟨0, rfl, by omega⟩, Ext.refl _ _⟩
  case round =>
    obtain ⟨⟨k, rfl, hk⟩, hE⟩ := hrel
    rename World => wr
    have HE := toHid hE
    clear hE
    match k, hk with
    | 0, _ =>
      obtain ⟨b, off, rfl, hb, c0, c1⟩ := (HR.out.ext0 HE.out).pairs_at (k := 0) (p := (1, 5)) rfl
      have c0 : wr.cell? ⟨b, off, none⟩ = some (.int .i64 1) := c0
      have c1 : wr.cell? ⟨b, off + 1, none⟩ = some (.int .i64 5) := c1
      go_wp2_with fail
      refine (ssmall_yes 5 (by omega) _).mono ?_
      rintro e w2 ⟨rfl, rfl⟩
      go_wp2_with fail
      refine ⟨⟨⟨1, rfl, by omega⟩, HE.out.alloc _⟩, ?_⟩
      simp [intOf]
    | 1, _ =>
      obtain ⟨b, off, rfl, hb, c0, c1⟩ := (HR.out.ext0 HE.out).pairs_at (k := 1) (p := (17, 1)) rfl
      have c0 : wr.cell? ⟨b, off + 2, none⟩ = some (.int .i64 17) := c0
      have c1 : wr.cell? ⟨b, off + 3, none⟩ = some (.int .i64 1) := c1
      go_wp2_with fail
      refine (swithin_yes 1 n (by omega) _).mono ?_
      rintro e w2 ⟨rfl, rfl⟩
      go_wp2_with fail
      refine ⟨⟨⟨2, rfl, by omega⟩, HE.out.alloc _⟩, ?_⟩
      simp [intOf]
    | 2, _ =>
      go_wp2_with fail
      refine (blocks_A (HR.out.ext0 HE.out)).mono ?_
      rintro e w2 ⟨⟨M, rfl⟩, e2⟩
      have H2 := toHid (ext0 HE.out e2)
      clear e2
      go_wp2_with fail
      go_ret
      exact ⟨rfl, H2.out⟩
set_option maxHeartbeats 2000000 in
/-- stack.Check of a program with an open block -/
theorem scheck_B {A : Nat → Prop} {w : World} {v : Value} (h : Rd A w [v] (.l 2 (progB.map pairD))) {n : Nat} (h2 : n ≤ 40) : Calls Tryz.prog 179 #[v, .int .i64 0, .int .i64 n] w fun e w' => e = .returned (.int .i64 25) ∧ Ext Nope w w' := by
  obtain ⟨a, cap, hv, hc, _⟩ := h.len
  have hv : v = .slice a 1 cap := hv
  have hc : 1 ≤ cap := hc
  subst hv
  have HR := toHid h
  clear h
  have n1 : (0 : Int) ≤ (n : Int) := by omega
  have n2 : (n : Int) ≤ 40 := by omega
  go_enter Tryz.func179, Tryz.ntmps179
  go_wp2_with fail
  go_loopw [28] (fun i wr => (∃ k : Nat, i = .int .i64 k ∧ k ≤ 1) ∧ Ext Nope w wr) (fun i _ => 2 - (intOf i).toNat)
  case atStart => exact ⟨⟨0, rfl, by omega⟩, Ext.refl _ _⟩
  case round =>
    obtain ⟨⟨k, rfl, hk⟩, hE⟩ := hrel
    rename World => wr
    have HE := toHid hE
    clear hE
    match k, hk with
    | 0, _ =>
      obtain ⟨b, off, rfl, hb, c0, c1⟩ := (HR.out.ext0 HE.out).pairs_at (k := 0) (p := (23, 0)) rfl
      have c0 : wr.cell? ⟨b, off, none⟩ = some (.int .i64 23) := c0
      have c1 : wr.cell? ⟨b, off + 1, none⟩ = some (.int .i64 0) := c1
      go_wp2_with fail
      refine ⟨⟨⟨1, rfl, by omega⟩, HE.out.alloc _⟩, ?_⟩
      simp [intOf]
    | 1, _ =>
      go_wp2_with fail
      refine (blocks_B (HR.out.ext0 HE.out)).mono ?_
      rintro e w2 ⟨⟨M, rfl⟩, e2⟩
      have H2 := toHid (ext0 HE.out e2)
      clear e2
      go_wp2_with fail
      go_ret
      exact ⟨rfl, H2.out⟩
end Go.Proofs.YtajebdpalnpjdaaGreatDoor
namespace Go.Proofs.YtajebdpalnpjdaaGreatDoor
open Go.RowKit
attribute [local go_sem] alloc_drewN setCell_drewN

set_option maxHeartbeats 1000000 in
/-- slices.IndexFunc at []abugida/bound.span,abugida/bound.span -/
theorem index_spans {A : Nat → Prop} {w : World} {v : Value} {xs : List Dat} {f : FuncId} {caps : Array Value} {p : Nat → Bool} (hf : Enters f) (hr : Rd A w [v] (.l 2 xs)) (hs : Says f caps w xs.length (ElS A xs) p) :
    Calls Tryz.prog 326 #[v, .func (.func f) #[] caps] w (IdxOf w p xs.length) := by
  have HR := toHid hr
  obtain ⟨a, cap, hv, hc1, hc2, _⟩ := hr.l_inv
  simp only [List.cons.injEq, and_true] at hv
  subst hv
  obtain ⟨n, HN⟩ : ∃ n, Hid (xs.length = n) := ⟨_, rfl⟩
  have HS := toHid hs
  rw [HN.out] at hc1 hs ⊢
  clear hr hs
  go_enter Tryz.func326, Tryz.ntmps326
  go_wp2
  go_loopw [8] (fun i wr => ∃ k : Nat, i = .int .i64 k ∧ k ≤ n ∧ anyN p k = false ∧ Ext Nope w wr) (fun i _ => n - (intOf i).toNat)
  case atStart => exact ⟨0, rfl, Nat.zero_le _, rfl, Ext.refl _ _⟩
  case round =>
    obtain ⟨k, rfl, hk, hp, hE⟩ := hrel
    rename World => wr
    have HE := toHid (show _ ∧ _ from ⟨hE, hp⟩)
    clear hE hp
    by_cases hkn : k < n
    · have hd := HR.out.ext0 HE.out.1
      obtain ⟨a', cap', hv, _, _, hl⟩ := hd.l_inv
      simp only [List.cons.injEq, Value.slice.injEq, and_true] at hv
      obtain ⟨rfl, _, rfl⟩ := hv
      obtain ⟨b, off, rfl, hb, hbl, hat⟩ := hl (by rw [HN.out]; omega)
      obtain ⟨x, hx⟩ : ∃ x, xs[k]? = some x := ⟨_, List.getElem?_eq_getElem (by rw [HN.out]; exact hkn)⟩
      obtain ⟨us, hu1, hu2, hu3⟩ := hat k x hx
      obtain ⟨u0, u1, rfl⟩ : ∃ u0 u1, us = [u0, u1] := by
        match us, hu1 with
        | [u0, u1], _ => exact ⟨u0, u1, rfl⟩
      have c0 : wr.cell? ⟨b, off + k * 2, none⟩ = some u0 := by simpa using hu2 0 _ rfl
      have c1 : wr.cell? ⟨b, off + k * 2 + 1, none⟩ = some u1 := by simpa using hu2 1 _ rfl
      have HC := toHid (HS.out k wr (.agg #[u0, u1]) (by rw [HN.out]; exact hkn) HE.out.1 ⟨x, [u0, u1], rfl, hx, hu3⟩)
      have s1 : (0 : Int) ≤ (k : Int) := by omega
      have s2 : (k : Int) < (n : Int) := by omega
      clear hd hl hat hu2 hu3 hx hb hbl hu1
      go_wp2_with fail
      refine HC.out.mono ?_
      rintro e w2 ⟨rfl, e2⟩
      have HP : Hid (anyN p (k + 1) = (anyN p k || p k)) := rfl
      have HQ := toHid (show p k = true → anyN p n = true from fun h => anyN_true hkn h)
      have H2 : Hid (Ext Nope w w2) := ext0 HE.out.1 e2
      clear e2 HC
      cases hpk : p k with
      | true =>
        have HK := toHid (HQ.out hpk)
        clear hpk
        go_wp2
        go_ret
        exact ⟨_, rfl, by rw [HK.out]; simp, H2.out⟩
      | false =>
        have HK : Hid (anyN p (k + 1) = false) := by unfold Hid; rw [HP.out, HE.out.2, hpk]; rfl
        clear hpk
        go_wp2
        go_roundw
        case rel => exact ⟨k + 1, by go_num, by omega, HK.out, H2.out⟩
        case measure => simp [intOf]; omega
    · have hkk : k = n := by omega
      subst hkk
      have s2 : decide ((k : Int) < (k : Int)) = false := by simp
      go_wp2
      go_ret
      exact ⟨_, rfl, by rw [HE.out.2]; decide, HE.out.1⟩
/-- slices.ContainsFunc at []abugida/bound.span,abugida/bound.span -/
theorem has_spans {A : Nat → Prop} {w : World} {v : Value} {xs : List Dat} {f : FuncId} {caps : Array Value} {p : Nat → Bool} (hf : Enters f) (hr : Rd A w [v] (.l 2 xs)) (hs : Says f caps w xs.length (ElS A xs) p) :
    Calls Tryz.prog 295 #[v, .func (.func f) #[] caps] w fun e w' => e = .returned (.bool (anyN p xs.length)) ∧ Ext Nope w w' := by
  have HI := toHid (index_spans hf hr hs)
  clear hr hs hf
  go_enter Tryz.func295, Tryz.ntmps295
  go_wp2_with fail
  refine HI.out.mono ?_
  rintro e w2 ⟨r, rfl, hrr, e2⟩
  have HRR := toHid (show _ ∧ _ from ⟨hrr, e2⟩)
  clear hrr e2 HI
  go_wp2
  go_ret
  exact ⟨ret_b HRR.out.1, HRR.out.2⟩
set_option maxHeartbeats 1000000 in
/-- a span that is small -/
theorem span_small (a b : Int) (h1 : -1048576 ≤ a) (h2 : b ≤ 1048576) (w : World) : Calls Tryz.prog 178 #[.agg #[.int .i64 a, .int .i64 b]] w fun e w' => e = .returned (.bool true) ∧ Ext Nope w w' := by
  go_enter Tryz.func178, Tryz.ntmps178
  go_wp2_with fail
  go_ret
  exact ⟨rfl, (Ext.refl _ _).alloc _⟩
set_option maxHeartbeats 1000000 in
theorem push_clo (a b : Int) (h1 : -1048576 ≤ a) (h2 : b ≤ 1048576) (w : World) : Calls Tryz.prog 296 #[.agg #[.int .i64 a, .int .i64 b]] w fun e w' => e = .returned (.bool false) ∧ Ext Nope w w' := by
  have HS := toHid (span_small a b h1 h2 (w.alloc (.cells #[.int .i64 a, .int .i64 b] 262)))
  go_enter Tryz.func296, Tryz.ntmps296
  go_wp2_with fail
  refine HS.out.mono ?_
  rintro e w2 ⟨rfl, e2⟩
  go_wp2_with fail
  go_ret
  exact ⟨rfl, ext0 ((Ext.refl _ _).alloc _) e2⟩
theorem ent_push : Enters 296 := enters_of Tryz.func296 (by kernel_rfl) rfl
/-- The machine's cells. -/
abbrev mcells (p st pts : Value) (hi stp : Int) : Array Value := #[p, .int .i64 4, .int .i64 32, .slice none 0 0, st, .int .i64 0, .int .i64 0, .int .i64 0, .int .i64 0, .int .i64 0, .int .i64 0, .int .i64 0, .int .i64 0, .int .i64 0, .int .i64 0, .int .i64 0, .int .i64 0, .int .i64 0, .int .i64 0, .int .i64 0, .int .i64 0, pts, .int .i64 hi, .int .i64 stp]
def MB (w : World) (mb : Nat) (p st pts : Value) (hi stp : Int) : Prop := w.heap[mb]? = some (.cells (mcells p st pts hi stp) 267 (0, 0))
theorem MB.at {w : World} {mb : Nat} {p st pts : Value} {hi stp : Int} (h : MB w mb p st pts hi stp) : w.cell? ⟨mb, 0, none⟩ = some p ∧ w.cell? ⟨mb, 4, none⟩ = some st ∧ w.cell? ⟨mb, 21, none⟩ = some pts ∧ w.cell? ⟨mb, 22, none⟩ = some (.int .i64 hi) ∧ w.cell? ⟨mb, 23, none⟩ = some (.int .i64 stp) := by
  refine ⟨?_, ?_, ?_, ?_, ?_⟩ <;> (rw [show ∀ j, (⟨mb, j, none⟩ : Addr) = at_ mb j from fun _ => rfl, cell_of_blk h]; rfl)
theorem MB.free {w : World} {mb : Nat} {p st pts : Value} {hi stp : Int} (h : MB w mb p st pts hi stp) (j : Nat) : w.frozen? ⟨mb, j, none⟩ = false := free_of_blk h j
theorem MB.lt {w : World} {mb : Nat} {p st pts : Value} {hi stp : Int} (h : MB w mb p st pts hi stp) : mb < w.heap.size := lt_of_heap h
theorem MB.ext {w w' : World} {S : Nat → Prop} {mb : Nat} {p st pts : Value} {hi stp : Int} (h : MB w mb p st pts hi stp) (e : Ext S w w') (hs : ¬ S mb) : MB w' mb p st pts hi stp := (e.block mb (lt_of_heap h) hs).trans h
theorem MB.setStack {w : World} {mb : Nat} {p st pts : Value} {hi stp : Int} (h : MB w mb p st pts hi stp) (u : Value) : MB (w.setCell ⟨mb, 4, none⟩ u) mb p u pts hi stp := heap_setCell_eq w mb 4 u _ _ _ h
theorem MB.setPts {w : World} {mb : Nat} {p st pts : Value} {hi stp : Int} (h : MB w mb p st pts hi stp) (u : Value) : MB (w.setCell ⟨mb, 21, none⟩ u) mb p st u hi stp := heap_setCell_eq w mb 21 u _ _ _ h
theorem MB.setHigh {w : World} {mb : Nat} {p st pts : Value} {hi stp : Int} (h : MB w mb p st pts hi stp) (n : Int) : MB (w.setCell ⟨mb, 22, none⟩ (.int .i64 n)) mb p st pts n stp := heap_setCell_eq w mb 22 _ _ _ _ h
theorem MB.setSteps {w : World} {mb : Nat} {p st pts : Value} {hi stp : Int} (h : MB w mb p st pts hi stp) (n : Int) : MB (w.setCell ⟨mb, 23, none⟩ (.int .i64 n)) mb p st pts hi n := heap_setCell_eq w mb 23 _ _ _ _ h
theorem infoSpan : (Tryz.prog.info? 262).map (fun i => (i.zero, i.size, i.bytes)) = some (some (.agg #[.int .i64 0, .int .i64 0]), 2, 16) := by kernel_rfl
theorem infoPoint : (Tryz.prog.info? 269).map (fun i => (i.zero, i.size, i.bytes)) = some (some (.agg #[.int .i64 0, .int .i64 0, .int .i64 0, .int .i64 0]), 4, 32) := by kernel_rfl
set_option maxHeartbeats 1000000 in
theorem clone_nil (w : World) : Calls Tryz.prog 294 #[.slice none 0 0] w fun e w' => e = .returned (.slice none 0 0) ∧ w = w' := by
  have hnil : ∀ (W : World) (a : Option Addr) (n c : Nat), (binOp .eql 263 (.slice a n c) (.slice none 0 0)).run Tryz.prog W = .ok (.bool a.isNone) W := fun W a n c => Lib.run_eql_slice_nil W 263 262 a n c 0 0 Tryz.underlying263
  go_enter Tryz.func294, Tryz.ntmps294
  go_wp2_with fail
  go_ret
  exact ⟨rfl, rfl⟩
set_option maxRecDepth 100000 in
set_option maxHeartbeats 1000000 in
/-- machine.step that takes nothing of an empty stack -/
theorem step_none {w : World} {mb : Nat} {p pts : Value} {hi stp : Int} (h : MB w mb p (.slice none 0 0) pts hi stp) (h0 : 0 ≤ stp) (h1 : stp < 100) :
    Calls Tryz.prog 233 #[ptr mb, .int .i64 0] w fun e w' => e = .returned (.tuple #[.slice none 0 0, .int .i64 0]) ∧ MB w' mb p (.slice none 0 0) pts hi (stp + 1) ∧ Ext (fun b => b = mb) w w' := by
  obtain ⟨c0, c4, c21, c22, c23⟩ := h.at
  have f23 := h.free 23
  have f4 := h.free 4
  have HM := toHid h
  have hlt := h.lt
  have s1 : IntKind.i64.wrap (stp + 1) = stp + 1 := IntWalk.i64_in _ (by omega)
  clear h
  go_enter Tryz.func233, Tryz.ntmps233
  go_wp2_with fail
  refine (clone_nil _).mono ?_
  rintro e w2 ⟨rfl, rfl⟩
  go_wp2_with fail
  go_ret2
  refine ⟨rfl, (HM.out.setSteps _).setStack _, Ext.setCell (S := fun b => b = mb) (Ext.setCell (S := fun b => b = mb) (Ext.refl _ _) mb 23 (fun _ => rfl) _) mb 4 (fun _ => rfl) _⟩
/-- A slice of one span of one's own. -/
def OwnSp (w : World) (base : Nat) (v : Value) (a b : Int) : Prop := w.ownsRow base 262 2 v 1 [.int .i64 a, .int .i64 b]
theorem pair_at {w : World} {b T : Nat} {x y : Value} (h : w.heap[b]? = some (.cells #[x, y] T (0, 0))) : ∀ (j : Nat) (u : Value), [x, y][j]? = some u → w.cell? (Addr.add ⟨b, 0, none⟩ j) = some u := by
  intro j u hj
  have hadd : Addr.add ⟨b, 0, none⟩ j = at_ b j := by unfold Addr.add; split <;> simp_all
  rw [hadd, cell_of_blk h]
  simpa using hj
set_option maxRecDepth 100000 in
set_option maxHeartbeats 1000000 in
theorem clone_one {w : World} {g cap base : Nat} {a b : Int} (h : OwnSp w base (.slice (some ⟨g, 0, none⟩) 1 cap) a b) : Calls Tryz.prog 294 #[.slice (some ⟨g, 0, none⟩) 1 cap] w fun e w' => ∃ v, e = .returned v ∧ OwnSp w' w.heap.size v a b ∧ Ext Nope w w' := by
  have hnil : ∀ (W : World) (a : Option Addr) (n c : Nat), (binOp .eql 263 (.slice a n c) (.slice none 0 0)).run Tryz.prog W = .ok (.bool a.isNone) W := fun W a n c => Lib.run_eql_slice_nil W 263 262 a n c 0 0 Tryz.underlying263
  have hg : g < w.heap.size := (World.ownsRow.lt h g rfl).2
  have hcells := toHid (own_cells h)
  obtain ⟨i0, hi, hz0, hz1, hz2⟩ := info_parts infoSpan
  have hn := heap_alloc_new w (.cells #[] 262)
  have hown : (w.alloc (.cells #[] 262)).ownsRow w.heap.size 262 2 (.slice (some ⟨w.heap.size, 0, none⟩) 0 0) 0 [] := ⟨rfl, .inr ⟨w.heap.size, 0, #[], rfl, Nat.le_refl _, hn, Nat.le_refl _, by unfold maxLen; omega, rfl, rfl⟩⟩
  have HO := toHid hown
  have hne : ∀ (j : Nat) (u : Value), [Value.int .i64 a, .int .i64 b][j]? = some u → (w.alloc (.cells #[] 262)).cell? (Addr.add ⟨g, 0, none⟩ j) = some u := fun j u hj => by
    have hadd : Addr.add ⟨g, 0, none⟩ j = at_ g j := by unfold Addr.add; split <;> simp_all
    rw [hadd, World.cell?_of_block (w := w) (heap_alloc_old w _ g hg), ← hadd]
    exact hcells.out j u hj
  have HNE := toHid hne
  clear hn hown hne h
  go_enter Tryz.func294, Tryz.ntmps294
  go_wp2_with (first | (at_builtin; refine wpList_append_own _ rfl (.tmp 5) (.tmp 6) 263 rfl w.heap.size 262 i0 _ 2 16 Tryz.underlying263 hi hz0 hz1 hz2 rfl (by decide) _ _ _ rfl HO.out ⟨g, 0, none⟩ 1 cap [.int .i64 a, .int .i64 b] rfl rfl HNE.out (fun u hu => by simp at hu; rcases hu with rfl | rfl <;> rfl) (by unfold maxLen; omega) (by omega) (by simp) ?_))
  intro v' w' hown' hgrow _
  have HW := toHid (show _ ∧ _ from ⟨(show OwnSp w' w.heap.size v' a b from hown'), Ext.grown (S := Nope) ((Ext.refl Nope w).alloc (.cells #[] 262)) hgrow (fun k hk hlt => absurd hlt (by have hk' : w.heap.size = k := (by simpa [Value.ownBlock] using hk); omega))⟩)
  clear hown' hgrow hi hz0 hz1 hz2
  go_wp2_with fail
  go_ret
  exact ⟨_, rfl, HW.out⟩
set_option maxRecDepth 100000 in
set_option maxHeartbeats 1000000 in
/-- machine.step that takes the one span of a stack -/
theorem step_one {w : World} {mb g cap base : Nat} {p pts : Value} {hi stp a b : Int} (h : MB w mb p (.slice (some ⟨g, 0, none⟩) 1 cap) pts hi stp) (ho : OwnSp w base (.slice (some ⟨g, 0, none⟩) 1 cap) a b) (hc : 1 ≤ cap) (hgm : g ≠ mb) (h0 : 0 ≤ stp) (h1 : stp < 100) :
    Calls Tryz.prog 233 #[ptr mb, .int .i64 1] w fun e w' => ∃ v, e = .returned (.tuple #[v, .int .i64 0]) ∧ OwnSp w' w.heap.size v a b ∧ (∃ st, MB w' mb p st pts hi (stp + 1)) ∧ Ext (fun b => b = mb) w w' := by
  obtain ⟨c0, c4, c21, c22, c23⟩ := h.at
  have f23 := h.free 23
  have f4 := h.free 4
  have HM := toHid h
  have hlt := h.lt
  have s1 : IntKind.i64.wrap (stp + 1) = stp + 1 := IntWalk.i64_in _ (by omega)
  have e1 : Ext (fun b => b = mb) w (w.setCell ⟨mb, 23, none⟩ (.int .i64 (stp + 1))) := Ext.setCell (S := fun b => b = mb) (Ext.refl _ _) mb 23 (fun _ => rfl) _
  have HC := toHid (clone_one (own_ext ho e1 (fun k hk z => by have hk' : g = k := by simpa [Value.ownBlock] using hk
                                                               have z : k = mb := z
                                                               omega)))
  have HE := toHid e1
  clear h ho e1
  go_enter Tryz.func233, Tryz.ntmps233
  go_wp2_with fail
  refine HC.out.mono ?_
  rintro e w2 ⟨v, rfl, o2, e2⟩
  have HM2 := toHid ((HM.out.setSteps (stp + 1)).ext e2 (fun z => z))
  obtain ⟨d0, d4, d21, d22, d23⟩ := HM2.out.at
  have f4' := HM2.out.free 4
  have hs : (w.setCell ⟨mb, 23, none⟩ (.int .i64 (stp + 1))).heap.size = w.heap.size := by simp
  rw [hs] at o2
  have H2 := toHid (show _ ∧ _ from ⟨o2, ext0 HE.out e2⟩)
  clear hs
  have hlt2 := HM2.out.lt
  clear o2 e2 HC
  go_wp2_with fail
  go_ret2
  have e3 : Ext (fun b => b = mb) w2 (w2.setCell ⟨mb, 4, none⟩ (.slice (some ⟨g, 0, none⟩) 0 cap)) := Ext.setCell (S := fun b => b = mb) (Ext.refl _ _) mb 4 (fun _ => rfl) _
  refine ⟨_, rfl, own_ext H2.out.1 e3 (fun k hk z => ?_), ⟨_, HM2.out.setStack _⟩, H2.out.2.trans e3 (fun _ _ z => z)⟩
  have := (World.ownsRow.lt H2.out.1 k hk).1
  have z : k = mb := z
  omega
end Go.Proofs.YtajebdpalnpjdaaGreatDoor
