/-
  A strings.Builder that lies in another structure.
  slices.Grow and slices.Concat of lists of strings.
  A line that is written.
-/
import Derived.Test.YtajebdpalnpjdaaGreatDoorM28
import Derived.Test.YtajebdpalnpjdaaGreatDoorSh
import Derived.Shelf.RegionOpenPlain
import Derived.Laws.Externs
import Derived.Lib.AppendZerosOnto
import Derived.Laws.AppendOwnNone
import Derived.Lib.SliceRun
import Derived.Test.YtajebdpalnpjdaaGreatDoorM27
namespace Go.Proofs.YtajebdpalnpjdaaGreatDoor
open Go.RowKit
attribute [local go_sem] alloc_drewN setCell_drewN

theorem sizeBuilder : (Tryz.prog.info? 94).map (fun i => i.size) = some 2 := by kernel_rfl
theorem liesWriter : liesAt Tryz.prog Tryz.prog.depth 96 (2 / Tryz.prog.cellsOf 96) 0 94 1 = true := by kernel_rfl
/-- A builder, in a block of the writer's. -/
abbrev BAt (B b : Nat) (p : Value) (bs : List Value) (w : World) : Prop := Lib.BuilderAt 96 5 B b p bs w
set_option maxHeartbeats 1000000 in
set_option maxRecDepth 100000 in
theorem copy_used (b : Nat) (w : World) (h0 : w.cell? ⟨b, 0, none⟩ = some (ptr b)) :
    Calls Tryz.prog 182 #[ptr b] w fun e w' => e = .returned (.tuple #[]) ∧ w' = w := by
  obtain ⟨j, hj, _⟩ := Option.map_eq_some_iff.1 sizeBuilder
  go_enter Tryz.func182, Tryz.ntmps182
  go_wp2_with fail
  rw [Lib.run_neq_ptr_same w _ Tryz.underlying92 hj]
  go_wp2_with fail
  go_end0
  exact ⟨rfl, rfl⟩
set_option maxHeartbeats 1000000 in
set_option maxRecDepth 100000 in
theorem copy_fresh (b : Nat) (w : World) (h0 : w.cell? ⟨b, 0, none⟩ = some (.pointer none)) (hsh : w.shape? b = some (96, 2)) (hfz : w.frozen? ⟨b, 0, none⟩ = false) :
    Calls Tryz.prog 182 #[ptr b] w fun e w' => e = .returned (.tuple #[]) ∧ w' = w.setCell ⟨b, 0, none⟩ (ptr b) := by
  obtain ⟨j, hj, hjs⟩ := Option.map_eq_some_iff.1 sizeBuilder
  go_enter Tryz.func182, Tryz.ntmps182
  go_wp2_with fail
  rw [Lib.run_to_unsafe w ⟨b, 0, none⟩ Tryz.underlying92 Tryz.underlying342 hj (by rw [hjs]; decide) hsh (Nat.zero_lt_succ 1)]
  simp only [Result.andThen]
  rw [Oper.upon_value]
  go_wp2_with fail
  rw [run_callFunc_extern Tryz.func261 (by kernel_rfl) (by kernel_rfl) (by kernel_rfl) (e := Extern.AbiNoEscape.same) (by kernel_rfl)]
  rw [Lib.run_noEscape]
  simp only [Result.andThen]
  rw [Oper.upon_value]
  go_wp2_with fail
  rw [Lib.run_from_unsafe w ⟨b, 0, none⟩ Tryz.underlying342 Tryz.underlying92 hj hsh liesWriter]
  simp only [Result.andThen]
  rw [Oper.upon_value]
  go_wp2_with fail
  go_end0
  exact ⟨rfl, rfl⟩
/-- What writing may turn: the writer's block, and rows of bytes. -/
def Wr (w : World) (B b k : Nat) : Prop := k = b ∨ (B ≤ k ∧ ∃ c fz, w.heap[k]? = some (.cells c 5 fz))
theorem Wr.back {w w' : World} {B b k : Nat} (e : Ext (Wr w B b) w w') (hk : k < w.heap.size) (h : Wr w' B b k) : Wr w B b k := by
  by_cases hw : Wr w B b k
  · exact hw
  · rcases h with h | ⟨hB, c, fz, hh⟩
    · exact Or.inl h
    · exact Or.inr ⟨hB, c, fz, (e.block k hk hw).symm.trans hh⟩
theorem Wr.trans {w w' w'' : World} {B b : Nat} (e : Ext (Wr w B b) w w') (e' : Ext (Wr w' B b) w' w'') : Ext (Wr w B b) w w'' := e.trans e' (fun _ hk h => Wr.back e hk h)
theorem Wr.low {w : World} {B b k : Nat} (hb : B ≤ b) (hk : k < B) : ¬ Wr w B b k := fun h => h.elim (fun h => by omega) (fun h => by omega)
theorem Wr.other {w : World} {B b k : Nat} {c : Array Value} {T : Nat} {fz : Nat × Nat} (hh : w.heap[k]? = some (.cells c T fz)) (hT : T ≠ 5) (hne : k ≠ b) : ¬ Wr w B b k := fun h => by
  rcases h with h | ⟨_, c', fz', h'⟩
  · exact hne h
  · rw [hh] at h'
    simp at h'
    exact hT h'.2.1
/-- A builder that holds bytes. -/
def WB (w : World) (B b : Nat) (l : List UInt8) : Prop := Lib.IsBuilder 96 5 B b (Lib.byteCells l) w
theorem WB.le {w : World} {B b : Nat} {l : List UInt8} (h : WB w B b l) : B ≤ b ∧ b < w.heap.size := by
  rcases h with h | h
  · exact ⟨h.1, h.lt⟩
  · exact ⟨h.1, h.lt⟩
theorem WB.ext0 {w w' : World} {B b : Nat} {l : List UInt8} (h : WB w B b l) (e : Ext Nope w w') : WB w' B b l := by
  have key : ∀ p, Lib.BuilderAt 96 5 B b p (Lib.byteCells l) w → Lib.BuilderAt 96 5 B b p (Lib.byteCells l) w' := fun p h => by
    obtain ⟨h1, v, h2, h3, h4⟩ := h
    exact ⟨h1, v, (e.block _ (lt_of_heap h2) (fun z => z)).trans h2, own_ext h3 e (fun _ _ z => z), h4⟩
  exact h.imp (key _) (key _)
theorem infoByte : (Tryz.prog.info? 5).map (fun i => (i.zero, i.size, i.bytes)) = some (some (.int .u8 0), 1, 1) := by kernel_rfl
theorem cellsByte : Tryz.prog.cellsOf 5 = 1 := by kernel_rfl
set_option maxHeartbeats 2000000 in
set_option maxRecDepth 100000 in
/-- Builder.WriteString -/
theorem write_string {w : World} {B b : Nat} {l : List UInt8} {s : ByteArray} (h : WB w B b l) (hlen : l.length + s.size ≤ 100000000) (hBw : B ≤ w.heap.size) :
    Calls Tryz.prog 96 #[ptr b, .string s] w fun e w' => e = .returned (.tuple #[.int .i64 s.size, .nilIface]) ∧ WB w' B b (l ++ s.data.toList) ∧ Ext (Wr w B b) w w' := by
  obtain ⟨i0, hi, hz0, hz1, hz2⟩ := info_parts infoByte
  have HCopy : Hid (Calls Tryz.prog 182 #[ptr b] w fun e w' => e = .returned (.tuple #[]) ∧ BAt B b (ptr b) (Lib.byteCells l) w' ∧ Ext (fun k => k = b) w w') := by
    rcases h with h | h
    · refine (copy_fresh b w h.cell0 h.shape h.frozen0).mono ?_
      rintro e w' ⟨rfl, rfl⟩
      exact ⟨rfl, h.used _, Ext.setCell (S := fun k => k = b) (Ext.refl _ _) b 0 (fun _ => rfl) _⟩
    · refine (copy_used b w h.cell0).mono ?_
      rintro e w' ⟨rfl, rfl⟩
      exact ⟨rfl, h, Ext.refl _ _⟩
  clear h
  go_enter Tryz.func96, Tryz.ntmps96
  go_wp2_with fail
  refine HCopy.out.mono ?_
  rintro e w1 ⟨rfl, h1, e1⟩
  obtain ⟨hB, v, hbk, hown, hne⟩ := h1
  have c0 : w1.cell? ⟨b, 0, none⟩ = some (ptr b) := by rw [Lib.cell_of_heap hbk]; rfl
  have c1 : w1.cell? ⟨b, 1, none⟩ = some v := by rw [Lib.cell_of_heap hbk]; rfl
  have E1 := toHid e1
  clear e1
  go_wp2_with (first | (at_builtin; refine Lib.wpList_append_own_string _ rfl _ _ 57 9 rfl B 5 i0 Tryz.underlying57 Tryz.underlying9 hi hz0 hz1 hz2 _ _ _ rfl hown s rfl ?c3 ?c4 ?c5 ?_))
  case c3 => unfold maxLen; rw [Lib.byteCells_length]; omega
  case c4 => rw [Lib.byteCells_length]; omega
  case c5 => have := E1.out.size; omega
  intro v' w2 hown' hgrow _
  have hlt : b < w1.heap.size := lt_of_heap hbk
  have hb2 : w2.heap[b]? = some (.cells #[ptr b, v] 96 (0, 0)) := by
    rw [hgrow.block b hlt (fun e => hne e.symm)]
    exact hbk
  have d0 : w2.cell? ⟨b, 0, none⟩ = some (ptr b) := by rw [Lib.cell_of_heap hb2]; rfl
  have d1 : w2.cell? ⟨b, 1, none⟩ = some v := by rw [Lib.cell_of_heap hb2]; rfl
  have f1 : w2.frozen? ⟨b, 1, none⟩ = false := Lib.frozen_of_heap hb2 1
  obtain ⟨ao, n', cap, rfl⟩ : ∃ ao n' cap, v' = .slice ao n' cap := by
    rcases hown'.2 with ⟨hv, _⟩ | ⟨g, cap, cur, hv, _⟩
    · exact ⟨_, _, _, hv⟩
    · exact ⟨_, _, _, hv⟩
  have E2 : Hid (Ext (Wr w B b) w w2) := by
    refine (E1.out.mono (fun k z => Or.inl z)).trans (Ext.grown (S := Wr w1 B b) (Ext.refl _ _) hgrow (fun g hg hl => ?_)) (fun k hk z => ?_)
    · obtain ⟨_, ⟨rfl, _⟩ | ⟨g1, cap1, cur1, rfl, hb1, hh1, _⟩⟩ := hown
      · cases hg
      · have e1 : g1 = g := by simpa [Value.ownBlock] using hg
        exact Or.inr ⟨by rw [← e1]; exact hb1, cur1, (0, 0), by rw [← e1]; exact hh1⟩
    · exact Wr.back (E1.out.mono (fun k z => Or.inl z)) hk z
  go_wp2
  go_ret2
  refine ⟨rfl, Or.inr ?_, ?_⟩
  · exact Lib.BuilderAt.put (T := 96) (e := 5) hB hb2 (bs' := Lib.byteCells (l ++ s.data.toList)) (by simpa [Lib.strCells_length, Lib.byteCells, Lib.strCells] using hown') (by decide)
  · exact Ext.setCell E2.out b 1 (fun _ => Or.inl rfl) _
set_option maxHeartbeats 2000000 in
set_option maxRecDepth 100000 in
/-- Builder.String -/
theorem builder_string {w : World} {B b : Nat} {l : List UInt8} (h : WB w B b l) (h0 : l ≠ []) :
    Calls Tryz.prog 47 #[ptr b] w fun e w' => e = .returned (.string ⟨l.toArray⟩) ∧ Below B w w' := by
  obtain ⟨p, hB, v, hbk, hown, hne⟩ : ∃ p, Lib.BuilderAt 96 5 B b p (Lib.byteCells l) w := by
    rcases h with h | h
    · exact ⟨_, h⟩
    · exact ⟨_, h⟩
  have hl0 : l.length ≠ 0 := by simpa using h0
  rw [Lib.byteCells_length] at hown
  obtain ⟨g, cap, cur, rfl, hbg, hg, hnc, hcm, hcs, htake⟩ : ∃ g cap cur, v = .slice (some ⟨g, 0, none⟩) l.length cap ∧ B ≤ g ∧ w.heap[g]? = some (.cells cur 5 (0, 0)) ∧ l.length ≤ cap ∧ cap ≤ maxLen ∧ cur.size = cap * 1 ∧ cur.toList.take (l.length * 1) = Lib.byteCells l := by
    rcases hown.2 with ⟨_, hz⟩ | ⟨g, cap, cur, hv, r⟩
    · exact absurd hz hl0
    · exact ⟨g, cap, cur, hv, r⟩
  have c1 : w.drew.cell? ⟨b, 1, none⟩ = some (.slice (some ⟨g, 0, none⟩) l.length cap) := by
    have : w.drew.heap[b]? = some (.cells #[p, .slice (some ⟨g, 0, none⟩) l.length cap] 96 (0, 0)) := hbk
    rw [Lib.cell_of_heap this]; rfl
  have hSD : (Builtin.unsafeSliceData_ #[57] 198 #[.slice (some ⟨g, 0, none⟩) l.length cap]).run Tryz.prog w.drew = .ok (.pointer (some ⟨g, 0, none⟩)) w.drew :=
    Lib.run_unsafeSliceData_row _ _ _ _ _ _ (by omega)
  have hUS : (Builtin.unsafeString_ #[198, 3] 9 #[.pointer (some ⟨g, 0, none⟩), .int .i64 l.length]).run Tryz.prog w.drew = .ok (.string ⟨l.toArray⟩) (w.drew.freeze ⟨g, 0, none⟩ l.length) := by
    refine Lib.run_unsafeString_row w.drew 198 3 9 5 Tryz.underlying198 cellsByte g cur.size (by have hg' : w.drew.heap[g]? = some (.cells cur 5 (0, 0)) := hg; simp [World.shape?, hg']) l h0 (by omega) (by unfold maxLen at hcm; omega) ?_
    intro j x hx
    have := hown.cells (g := g) rfl j (.int .u8 x.toNat) (by simp [Lib.byteCells, hx])
    exact this
  go_enter Tryz.func47, Tryz.ntmps47
  go_wp2_with fail
  go_still_tail 10, (by kernel_rfl)
  change wpList _ _ _ _ _ w.drew
  go_wp2_with fail
  all_goals (go_ret; exact ⟨rfl, Lib.below_freeze (Below.drew (Below.refl B w)) (p := ⟨g, 0, none⟩) hbg _⟩)
end Go.Proofs.YtajebdpalnpjdaaGreatDoor
namespace Go.Proofs.YtajebdpalnpjdaaGreatDoor
open Go.RowKit
attribute [local go_sem] alloc_drewN setCell_drewN

set_option maxHeartbeats 4000000 in
set_option maxRecDepth 100000 in
/-- slices.Grow of nothing -/
theorem grow_strings {w : World} {n : Nat} (h0 : 0 < n) (hn : n ≤ 1000000) :
    Calls Tryz.prog 183 #[.slice none 0 0, .int .i64 n] w fun e w' => ∃ v, e = .returned v ∧ w'.ownsRow w.heap.size 9 1 v 0 [] ∧ Ext Nope w w' := by
  obtain ⟨i0, hi, hz0, hz1, hz2⟩ := info_parts infoStr
  have hrz : ∀ ty, (Builtin.append_ #[59, 3] ty #[.slice none 0 0, .int .i64 n]).run Tryz.prog w = .ok (.slice (some ⟨w.heap.size, 0, none⟩) n (grownCap w n 0 9)) (w.drew.alloc (.cells (Builtin.zeroCells (Value.string .empty).cells n ++ Builtin.zeroCells (Value.string .empty).cells (grownCap w n 0 9 - n)) 9)) := fun ty => by
    have h := Lib.run_append_grow_zeros w 59 3 ty 9 i0 _ .i64 .i64 Tryz.underlying59 Tryz.underlying3 hi hz0 none 0 0 [] (by rw [hz1]; exact run_firstCells_none w.drew 1 0 0 0) n h0 (by rw [hz1]; decide) (by omega) (by omega) (by rw [hz2]; omega)
      (by rw [hz2]; exact growslice_fits (by omega) (by omega))
    simpa using h
  have hGn : n ≤ grownCap w n 0 9 := grownCap_ge w _ _ _
  have hGm : grownCap w n 0 9 ≤ maxLen := grownCap_le_maxLen w _ _ _ (by unfold maxLen; omega)
  obtain ⟨G, hG⟩ : ∃ G, G = grownCap w n 0 9 := ⟨_, rfl⟩
  rw [← hG] at hrz hGn hGm
  have hG63 : G ≤ 9223372036854775807 := by unfold maxLen at hGm; omega
  have HM := toHid hGm
  have h4 : (n : Int) > 0 := by omega
  have h3 : wrap64 ((n : Int) - 0) = (n : Int) := by unfold wrap64; omega
  have h3' : wrap64 (n : Int) = (n : Int) := by unfold wrap64; omega
  clear hG hGm hi hz0 hz1 hz2
  go_enter Tryz.func183, Tryz.ntmps183
  go_wp2_with (first | (at_builtin; refine Lib.wpList_append_run _ rfl _ _ _ _ rfl _ _ rfl rfl _ _ (hrz _) ?_))
  go_ret
  refine ⟨_, rfl, ?_, (Ext.refl Nope w).drew.alloc _⟩
  refine ⟨rfl, .inr ⟨w.heap.size, G, _, rfl, Nat.le_refl _, heap_alloc_new w.drew _, Nat.zero_le _, HM.out, ?_, ?_⟩⟩
  · rw [Array.size_append]
    have hz : ∀ k, (Builtin.zeroCells #[Value.string .empty] k).size = k := fun k => by
      simp [Builtin.zeroCells]
    rw [hz, hz]
    omega
  · simp
abbrev strsD (l : List ByteArray) : Dat := .l 1 (l.map .s)
/-- How long the first k lists are. -/
def lenTo (ls : List (List ByteArray)) (k : Nat) : Nat := ((ls.take k).flatten).length
theorem lenTo_succ {ls : List (List ByteArray)} {k : Nat} {l : List ByteArray} (h : ls[k]? = some l) : lenTo ls (k + 1) = lenTo ls k + l.length := by
  have hk := (List.getElem?_eq_some_iff.1 h).1
  unfold lenTo
  rw [List.take_succ_eq_append_getElem hk, (List.getElem?_eq_some_iff.1 h).2]
  simp
theorem lenTo_le (ls : List (List ByteArray)) (k : Nat) : lenTo ls k ≤ ls.flatten.length := by
  unfold lenTo
  have : ls.flatten = (ls.take k).flatten ++ (ls.drop k).flatten := by rw [← List.flatten_append, List.take_append_drop]
  rw [this, List.length_append]
  omega
/-- The first k lists, as cells. -/
def strsTo (ls : List (List ByteArray)) (k : Nat) : List Value := ((ls.take k).flatten).map .string
theorem OwnS.app {w : World} {base : Nat} {v : Value} {ls : List (List ByteArray)} {k : Nat} {l : List ByteArray} (h : w.ownsRow base 9 1 v (lenTo ls k + l.length) (strsTo ls k ++ l.map .string)) (hk : ls[k]? = some l) : w.ownsRow base 9 1 v (lenTo ls (k + 1)) (strsTo ls (k + 1)) := by
  unfold strsTo at h ⊢
  have hkl := (List.getElem?_eq_some_iff.1 hk).1
  rw [lenTo_succ hk, List.take_succ_eq_append_getElem hkl, (List.getElem?_eq_some_iff.1 hk).2, List.flatten_append]
  simpa using h
theorem read_at {w : World} {A : Nat → Prop} {ad : Addr} {n c : Nat} {l : List ByteArray} (h : Rd A w [.slice (some ad) n c] (strsD l)) : ∀ (j : Nat) (u : Value), (l.map Value.string)[j]? = some u → w.cell? (ad.add j) = some u := by
  obtain ⟨a, cap, hv, _, _, hl⟩ := h.l_inv
  simp only [List.cons.injEq, Value.slice.injEq, and_true] at hv
  obtain ⟨rfl, _, rfl⟩ := hv
  intro j u hj
  rw [List.getElem?_map] at hj
  obtain ⟨s, hs, rfl⟩ := Option.map_eq_some_iff.1 hj
  have hjl := (List.getElem?_eq_some_iff.1 hs).1
  obtain ⟨b', off', hb, _, _, hat⟩ := hl (by rw [List.length_map]; omega)
  have hb : ad = ⟨b', off', none⟩ := by simpa using hb
  subst hb
  obtain ⟨us, hu1, hu2, hu3⟩ := hat j (.s s) (by rw [List.getElem?_map, hs]; rfl)
  obtain ⟨rfl, _⟩ := hu3.s_inv
  have hadd : Addr.add ⟨b', off', none⟩ j = at_ b' (off' + j) := by
    unfold Addr.add
    split <;> simp_all
  rw [hadd]
  simpa using hu2 0 _ rfl
theorem append_nothing {P : Program} {w : World} (base : Nat) (t ty e : TypeId) (i : TypeInfo) (size c : Nat) (ht : P.underlying t = some (.slice e)) (hi : P.info? e = some i)
    (v : Value) (n : Nat) (xs : List Value) (hown : w.ownsRow base e size v n xs) :
    (Builtin.append_ #[t, t] ty #[v, .slice none 0 c]).run P w = .ok v w := by
  rcases hown.2 with ⟨rfl, rfl⟩ | ⟨g, cap, cur, rfl, _, _, hnc, _⟩
  · simp [Builtin.append_, run_underlying ht, sizeOf, typeInfo, hi, Builtin.lenOf, Builtin.firstCells]
  · simp [Builtin.append_, run_underlying ht, sizeOf, typeInfo, hi, Builtin.lenOf, Builtin.firstCells, hnc, storeCells]
set_option maxHeartbeats 4000000 in
set_option maxRecDepth 100000 in
/-- slices.Concat -/
theorem concat_strings {A : Nat → Prop} {w : World} {v : Value} {ls : List (List ByteArray)} (hr : Rd A w [v] (.l 1 (ls.map strsD))) (h0 : 0 < ls.flatten.length) (hn : ls.flatten.length ≤ 100000) (hls : ls.length ≤ 100000) :
    Calls Tryz.prog 97 #[v] w fun e w' => ∃ v', e = .returned v' ∧ OwnS w' w.heap.size v' ls.flatten ∧ Ext Nope w w' := by
  have HR := toHid hr
  obtain ⟨a, cap, hv, hc1, hc2, _⟩ := hr.l_inv
  simp only [List.cons.injEq, and_true] at hv
  rw [List.length_map] at hv hc1
  subst hv
  obtain ⟨n, HN⟩ : ∃ n, Hid (ls.length = n) := ⟨_, rfl⟩
  obtain ⟨N, HNN⟩ : ∃ N, Hid (ls.flatten.length = N) := ⟨_, rfl⟩
  have HLE := toHid (fun k => lenTo_le ls k)
  have HZ : Hid (lenTo ls 0 = 0) := by unfold lenTo Hid; simp
  have HF : Hid (lenTo ls n = N ∧ strsTo ls n = ls.flatten.map .string) := by
    unfold Hid strsTo
    rw [← HN.out, ← HNN.out]
    unfold lenTo
    simp
  rw [HNN.out] at HLE h0 hn
  have HB := toHid hn
  rw [HN.out] at hc1 hls HR ⊢
  have hnn : Hid (0 < N) := h0
  clear hr h0 hn
  obtain ⟨i0, hi, hz0, hz1, hz2⟩ := info_parts infoStr
  have HI := toHid (show _ ∧ _ ∧ _ ∧ _ from ⟨hi, hz0, hz1, hz2⟩)
  clear hi hz0 hz1 hz2
  go_enter Tryz.func97, Tryz.ntmps97
  go_wp2_with fail
  go_loopw [3, 11] (fun sz i wr => ∃ k : Nat, i = .int .i64 k ∧ k ≤ n ∧ sz = .int .i64 (lenTo ls k) ∧ wr = w) (fun _ i _ => n - (intOf i).toNat)
  case atStart => exact ⟨0, rfl, Nat.zero_le _, by rw [HZ.out]; rfl, rfl⟩
  case round =>
    obtain ⟨k, rfl, hk, rfl, hw⟩ := hrel
    have hw := hw.symm
    subst hw
    by_cases hkn : k < n
    · obtain ⟨a', cap', hv, _, _, hll⟩ := HR.out.l_inv
      simp only [List.cons.injEq, Value.slice.injEq, and_true] at hv
      obtain ⟨rfl, hq, rfl⟩ := hv
      clear hq
      obtain ⟨b, off, rfl, hb, hbl, hat⟩ := hll (by rw [List.length_map, HN.out]; omega)
      obtain ⟨l, hx⟩ : ∃ l, ls[k]? = some l := ⟨_, List.getElem?_eq_getElem (by rw [HN.out]; exact hkn)⟩
      obtain ⟨us, hu1, hu2, hu3⟩ := hat k (strsD l) (by rw [List.getElem?_map, hx]; rfl)
      obtain ⟨au, cu, rfl, hcu1, hcu2, _⟩ := hu3.l_inv
      rw [List.length_map] at hu2 hcu1
      have c0 : w.cell? ⟨b, off + k, none⟩ = some (.slice au l.length cu) := by simpa using hu2 0 _ rfl
      have HK : Hid (lenTo ls (k + 1) = lenTo ls k + l.length) := lenTo_succ hx
      have h1 := HLE.out (k + 1)
      have h2 := HB.out
      have s1 : (0 : Int) ≤ (k : Int) := by omega
      have s2 : (k : Int) < (n : Int) := by omega
      have s3 : IntKind.i64.wrap ((lenTo ls k : Int) + (l.length : Int)) = (lenTo ls (k + 1) : Int) := by
        rw [HK.out]
        have := HK.out
        rw [IntWalk.i64_in _ (by omega)]
        omega
      have s4 : ¬ ((lenTo ls (k + 1) : Int) < 0) := by omega
      clear hat hu2 hu3 hb hu1 hll h1 h2 hx
      go_wp2
      go_roundw
      case rel => refine ⟨k + 1, by go_num, by omega, ?_⟩; first | trivial | exact ⟨rfl, rfl⟩
      case measure => simp [intOf]; omega
    · have hkk : k = n := by omega
      subst hkk
      rw [HF.out.1]
      have s2 : decide ((k : Int) < (k : Int)) = false := by simp
      go_wp2_with fail
      have hG := toHid (grow_strings (w := w) hnn.out (by have := HB.out; omega))
      refine hG.out.mono ?_
      rintro e w2 ⟨v2, rfl, o2, e2⟩
      obtain ⟨av2, cv2, hv2, _⟩ := own_gen o2
      subst hv2
      have H2 := toHid (show _ ∧ _ from ⟨o2, e2⟩)
      clear o2 e2 hG s2
      go_wp2_with fail
      go_loopw [6, 27] (fun o i wr => ∃ j : Nat, i = .int .i64 j ∧ j ≤ k ∧ wr.ownsRow w.heap.size 9 1 o (lenTo ls j) (strsTo ls j) ∧ Ext Nope w wr) (fun _ i _ => k - (intOf i).toNat)
      case atStart => exact ⟨0, rfl, Nat.zero_le _, by rw [HZ.out]; exact H2.out.1, H2.out.2⟩
      case round =>
        obtain ⟨j, rfl, hj, hO, hE⟩ := hrel
        rename World => wr
        have HK := toHid (show _ ∧ _ from ⟨hO, hE⟩)
        obtain ⟨av, cv, hv, _⟩ := own_gen hO
        subst hv
        clear hO hE
        by_cases hjk : j < k
        · have hd := HR.out.ext0 HK.out.2
          obtain ⟨a', cap', hv, _, _, hll⟩ := hd.l_inv
          simp only [List.cons.injEq, Value.slice.injEq, and_true] at hv
          obtain ⟨rfl, hq, rfl⟩ := hv
          clear hq
          obtain ⟨b, off, rfl, hb, hbl, hat⟩ := hll (by rw [List.length_map, HN.out]; omega)
          obtain ⟨l, hx⟩ : ∃ l, ls[j]? = some l := ⟨_, List.getElem?_eq_getElem (by rw [HN.out]; exact hjk)⟩
          obtain ⟨us, hu1, hu2, hu3⟩ := hat j (strsD l) (by rw [List.getElem?_map, hx]; rfl)
          obtain ⟨au, cu, rfl, hcu1, hcu2, _⟩ := hu3.l_inv
          have HU := toHid hu3
          rw [List.length_map] at hu2 hcu1 HU
          have c0 : wr.cell? ⟨b, off + j, none⟩ = some (.slice au l.length cu) := by simpa using hu2 0 _ rfl
          have HX := toHid hx
          have s1 : (0 : Int) ≤ (j : Int) := by omega
          have s2 : (j : Int) < (k : Int) := by omega
          have hb1 := HLE.out (j + 1)
          have hb2 := HB.out
          have hb3 := lenTo_succ hx
          obtain ⟨m, HM⟩ : ∃ m, Hid (lenTo ls j = m) := ⟨_, rfl⟩
          have hbound : m + l.length ≤ 100000 := by have := HM.out; omega
          have hown := HK.out.1
          rw [HM.out] at hown ⊢
          obtain ⟨hi, hz0, hz1, hz2⟩ := HI.out
          clear hat hu2 hu3 hb hu1 hll hx hb1 hb2 hb3 hd
          rcases au with _ | ad
          · have hl0 : l.length = 0 := by
              obtain ⟨_, _, hnone, _, _, hll2⟩ := HU.out.l_inv
              simp only [List.cons.injEq, Value.slice.injEq, and_true] at hnone
              obtain ⟨rfl, _, rfl⟩ := hnone
              rcases Nat.eq_zero_or_pos l.length with h | h
              · exact h
              · obtain ⟨_, _, hh, _⟩ := hll2 (by rw [List.length_map]; exact h)
                cases hh
            have hnil : l = [] := List.length_eq_zero_iff.1 hl0
            subst hnil
            have hrun := fun ty => append_nothing (P := Tryz.prog) w.heap.size 59 ty 9 i0 1 cu Tryz.underlying59 hi (.slice av m cv) m (strsTo ls j) hown
            go_wp2_with (first | (at_builtin; refine Lib.wpList_append_run _ rfl (.tmp 31) (.tmp 32) 59 59 rfl _ _ rfl rfl _ _ (hrun _) ?_))
            have HW := toHid (show _ ∧ _ from ⟨OwnS.app (l := []) (by rw [HM.out]; simpa using hown) HX.out, HK.out.2⟩)
            clear hown hi hz0 hz1 hz2 hrun
            go_roundw
            case rel => exact ⟨j + 1, by go_num, by omega, HW.out⟩
            case measure => simp [intOf]; omega
          · have hone : ∀ u ∈ l.map Value.string, u.oneCell' = true := fun u hu => by
              obtain ⟨s, _, rfl⟩ := List.mem_map.1 hu
              rfl
            have hread := read_at HU.out
            go_wp2_with (first | (at_builtin; refine wpList_append_own _ rfl (.tmp 31) (.tmp 32) 59 rfl w.heap.size 9 i0 _ 1 16 Tryz.underlying59 hi hz0 hz1 hz2 rfl (by decide) _ m _ rfl hown ad l.length cu (l.map .string) rfl (by simp) hread hone (by unfold maxLen; omega) (by omega) HK.out.2.size ?_))
            intro v' w' hown' hgrow _
            have HW := toHid (show _ ∧ _ from ⟨OwnS.app (by rw [HM.out]; exact hown') HX.out, Ext.grown HK.out.2 hgrow (fun g hg hlt => absurd hlt (by have := (World.ownsRow.lt hown g hg).1; omega))⟩)
            clear hown' hgrow hown hi hz0 hz1 hz2 hone hread
            go_wp2
            go_roundw
            case rel => exact ⟨j + 1, by go_num, by omega, HW.out⟩
            case measure => simp [intOf]; omega
        · have hjj : j = k := by omega
          subst hjj
          have s2 : decide ((j : Int) < (j : Int)) = false := by simp
          go_wp2
          go_ret
          refine ⟨_, rfl, ?_, HK.out.2⟩
          have h := HK.out.1
          rw [HF.out.2] at h
          unfold OwnS
          rw [HNN.out, ← HF.out.1]
          exact h
theorem join_eq (c : UInt8) : ∀ xs : List (List UInt8), Lib.join xs [c] = joinC c xs
  | [] => rfl
  | [x] => Lib.join_one _ _
  | x :: y :: r => by
    rw [Lib.join_cons]
    show x ++ Lib.joinTail [c] (y :: r) = x ++ c :: joinC c (y :: r)
    rw [← join_eq c (y :: r), Lib.join_cons]
    simp [Lib.joinTail]
/-- strings.Join of a list that is read. -/
theorem join_strings {A : Nat → Prop} {w : World} {v : Value} {l : List ByteArray} (hr : Rd A w [v] (strsD l)) (h0 : 0 < l.length) (hn : l.length ≤ 100000) (sep : UInt8) (hs : (joinB sep l).size ≤ 1000000) :
    Calls Tryz.prog 44 #[v, .string ⟨#[sep]⟩] w fun e w' => e = .returned (.string (joinB sep l)) ∧ Ext Nope w w' := by
  have hrd := toHid hr
  obtain ⟨a, cap, hv, hc1, hc2, hl⟩ := hr.l_inv
  simp only [List.cons.injEq, and_true] at hv
  subst hv
  obtain ⟨b, off, rfl, _, hb, hat⟩ := hl (by rw [List.length_map]; exact h0)
  rw [List.length_map] at hc1 ⊢
  have hj : (Lib.join (l.map (·.data.toList)) [sep]) = (joinB sep l).data.toList := by
    rw [joinB_list]
    exact join_eq _ _
  refine (Tryz.strings_Join b off cap l ⟨#[sep]⟩ w (fun j x hx => ?_) hb (by omega) hc1 ?_).mono ?_
  · obtain ⟨us, _, hu2, hu3⟩ := hat j (.s x) (by rw [List.getElem?_map, hx]; rfl)
    obtain ⟨rfl, _⟩ := hu3.s_inv
    simpa using hu2 0 _ rfl
  · show (Lib.join (l.map (·.data.toList)) [sep]).length ≤ _
    rw [hj, Array.length_toList]
    exact Nat.le_trans hs (by omega)
  · rintro e w' ⟨rfl, hw⟩
    refine ⟨congrArg (fun z => Ending.returned (Value.string z)) ?_, Ext.below hw⟩
    apply bytes_ext
    exact hj
end Go.Proofs.YtajebdpalnpjdaaGreatDoor
namespace Go.Proofs.YtajebdpalnpjdaaGreatDoor
open Go.RowKit
attribute [local go_sem] alloc_drewN setCell_drewN

/-- The bytes of a line. -/
def lineC (ss : List ByteArray) : List UInt8 := joinC 32 (ss.map fun p => p.data.toList) ++ [10]
set_option maxRecDepth 100000 in
set_option maxHeartbeats 4000000 in
/-- writer.line -/
theorem line_calls {A : Nat → Prop} {w : World} {B b : Nat} {l : List UInt8} {v : Value} {ls : List (List ByteArray)} (h : WB w B b l) (hB : B ≤ w.heap.size) (hr : Rd A w [v] (.l 1 (ls.map strsD))) (h0 : 0 < ls.flatten.length) (hn : ls.flatten.length ≤ 100000) (hls : ls.length ≤ 100000) (hs : (joinB 32 ls.flatten).size ≤ 1000000) (hsm : ∀ s ∈ ls.flatten, s.size ≤ 1000000) (hlen : l.length ≤ 10000000) :
    Calls Tryz.prog 37 #[ptr b, v] w fun e w' => e = .returned (.tuple #[]) ∧ WB w' B b (l ++ lineC ls.flatten) ∧ Ext (Wr w B b) w w' := by
  have HW := toHid (show _ ∧ _ from ⟨h, hB⟩)
  have HC := toHid (fun (W : World) (e : Ext Nope w W) => concat_strings (hr.ext0 e) h0 hn hls)
  obtain ⟨av, cv, hv, _⟩ := hr.len
  rw [List.length_map] at hv
  subst hv
  obtain ⟨t, HT⟩ : ∃ t, Hid (joinB 32 ls.flatten = t) := ⟨_, rfl⟩
  have HJ := toHid (fun (W : World) (v' : Value) (hr' : Rd (fun _ => True) W [v'] (strsD ls.flatten)) => join_strings hr' h0 hn 32 hs)
  have HS := toHid (show _ ∧ _ ∧ _ from ⟨hsm, hlen, hs⟩)
  rw [HT.out] at HJ
  have hs2 := HS.out.2.2
  rw [HT.out] at hs2
  have HTS := toHid hs2
  clear h hB hr h0 hn hls hs hsm hlen hs2
  go_enter Tryz.func37, Tryz.ntmps37
  refine wp_region_head 7 (fun w' => True) (by kernel_rfl) (by kernel_rfl) trivial (fun hO hHeld => ?_)
  have q1 := toHid ((Ext.refl Nope w).drew)
  generalize w.drew = w1 at *
  refine wpAnyT_takeD (i := 0) (d := some 4) (v := ?_) hO rfl rfl (by kernel_rfl) (fun _ _ _ h => h) (Or.inl ⟨by rfl, ?_⟩) (by exact hHeld) ?_
  rotate_left
  · intro w' hSw
    go_simp
    try (with_reducible rfl)
  try simp only [Act.put, List.setIfInBounds_toArray, List.set_cons_zero, List.set_cons_succ]
  refine wpAnyT_takeD (i := 1) (d := some 5) (v := ?_) hO rfl rfl (by kernel_rfl) (fun _ _ _ h => h) (Or.inl ⟨by rfl, ?_⟩) (by exact hHeld) ?_
  rotate_left
  · intro w' hSw
    go_simp
    try (with_reducible rfl)
  try simp only [Act.put, List.setIfInBounds_toArray, List.set_cons_zero, List.set_cons_succ]
  refine wpAnyT_takeD (i := 2) (d := some 6) (v := ?_) hO rfl rfl (by kernel_rfl) (fun _ _ _ h => h) (Or.inl ⟨by rfl, ?_⟩) (by exact hHeld) ?_
  rotate_left
  · intro w' hSw
    go_simp
    try (with_reducible rfl)
  try simp only [Act.put, List.setIfInBounds_toArray, List.set_cons_zero, List.set_cons_succ]
  refine wpAnyT_takeD (i := 3) (d := some 7) (v := ?_) hO rfl rfl (by kernel_rfl) (fun _ _ _ h => h) (Or.inl ⟨by rfl, ?_⟩) (by exact hHeld) ?_
  rotate_left
  · intro w' hSw
    go_simp
    try (with_reducible rfl)
  try simp only [Act.put, List.setIfInBounds_toArray, List.set_cons_zero, List.set_cons_succ]
  refine wpAnyT_one (i := 4) rfl (by kernel_rfl) (by rfl) (fun K hK => ?_)
  go_simp
  refine (HC.out _ q1.out).mono ?_
  rintro e w2 ⟨v2, rfl, o2, e2⟩
  have H2 := toHid (show _ ∧ _ from ⟨OwnS.rd (A := fun _ => True) o2 (fun _ _ => trivial) (fun s hs => by have := HS.out.1 s hs; unfold maxLen; omega), (ext0 q1.out e2 : Ext Nope w w2)⟩)
  obtain ⟨av2, cv2, hv2, _⟩ := own_gen o2
  obtain ⟨N, HN⟩ : ∃ N, Hid (ls.flatten.length = N) := ⟨_, rfl⟩
  rw [HN.out] at hv2
  subst hv2
  clear o2 e2
  try go_simp
  refine hK.out _ _ trivial (fun _ => ?_)
  clear hK K
  try simp only [Act.put, List.setIfInBounds_toArray, List.set_cons_zero, List.set_cons_succ]
  refine wpAnyT_one (i := 5) rfl (by kernel_rfl) (by rfl) (fun K hK => ?_)
  go_simp
  refine (HJ.out _ _ H2.out.1).mono ?_
  rintro e w3 ⟨rfl, e3⟩
  have H3 := toHid (ext0 H2.out.2 e3)
  clear e3
  try go_simp
  refine hK.out _ _ trivial (fun _ => ?_)
  clear hK K
  try simp only [Act.put, List.setIfInBounds_toArray, List.set_cons_zero, List.set_cons_succ]
  have s1 : ¬ 9223372036854775807 < t.size + 1 := by have := HTS.out; omega
  refine wpAnyT_takeD (i := 6) (d := some 10) (v := ?_) hO rfl rfl (by kernel_rfl) (fun _ _ _ h => h) (Or.inl ⟨by rfl, ?_⟩) (by exact hHeld) ?_
  rotate_left
  · intro w' hSw
    go_simp
    try (with_reducible rfl)
  try simp only [Act.put, List.setIfInBounds_toArray, List.set_cons_zero, List.set_cons_succ]
  refine wpAnyT_done (by kernel_rfl) ⟨by kernel_rfl, ?_⟩
  simp only [List.drop_succ_cons, List.drop_zero]
  go_wp2_with fail
  refine (write_string (HW.out.1.ext0 H3.out) (s := t ++ (⟨#[10]⟩ : ByteArray)) ?_ (Nat.le_trans HW.out.2 H3.out.size)).mono ?_
  · have h1 := HTS.out
    have h2 := HS.out.2.1
    have h3 : (t ++ (⟨#[10]⟩ : ByteArray)).size = t.size + 1 := by
      rw [ByteArray.size_append]; rfl
    omega
  · rintro e w4 ⟨rfl, b4, e4⟩
    have H4 := toHid (show _ ∧ _ from ⟨b4, Wr.trans (H3.out.mono (fun _ z => z.elim)) e4⟩)
    clear b4 e4
    go_wp2_with fail
    go_end0
    have ht : (t ++ (⟨#[10]⟩ : ByteArray)).data.toList = lineC ls.flatten := by
      rw [← HT.out]
      simp [lineC, joinB]
    have hb := H4.out.1
    rw [ht] at hb
    exact ⟨rfl, hb, H4.out.2⟩
end Go.Proofs.YtajebdpalnpjdaaGreatDoor
