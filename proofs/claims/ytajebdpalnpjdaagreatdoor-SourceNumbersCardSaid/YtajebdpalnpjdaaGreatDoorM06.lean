/-
  Texts that are joined with a byte, and split again. No program is named here.
  Texts that are split, and the numbers of a part.
  The numbers of a part.
-/
import Derived.Lib.Split
import Derived.Lib.SplitLaws
import Derived.Lib.Index
import Derived.Test.YtajebdpalnpjdaaGreatDoorM05
import Derived.OwnWalk
namespace Go.Proofs.YtajebdpalnpjdaaGreatDoor
open Go.Lib

/-- Pieces with a byte between them. -/
def joinC (c : UInt8) : List (List UInt8) → List UInt8
  | [] => []
  | [x] => x
  | x :: y :: r => x ++ c :: joinC c (y :: r)
theorem index_at {x r : List UInt8} {c : UInt8} (h : c ∉ x) : index (x ++ c :: r) [c] = x.length := by
  refine index_first (by simp) ?_ (fun j hj => ?_)
  · unfold occAt
    simp
  · unfold occAt
    rw [List.drop_append, List.drop_eq_getElem_cons hj]
    have : c ≠ x[j] := fun e => h (by rw [e]; exact List.getElem_mem _)
    simp only [List.cons_append, List.isPrefixOf, Bool.and_eq_false_iff]
    exact .inl (beq_eq_false_iff_ne.2 this)
theorem index_not {x : List UInt8} {c : UInt8} (h : c ∉ x) : index x [c] = -1 := by
  refine index_none (fun j hj => ?_)
  unfold occAt
  rcases Nat.lt_or_ge j x.length with hlt | hge
  · rw [List.drop_eq_getElem_cons hlt]
    have : c ≠ x[j] := fun e => h (by rw [e]; exact List.getElem_mem _)
    simp only [List.isPrefixOf, Bool.and_eq_false_iff]
    exact .inl (beq_eq_false_iff_ne.2 this)
  · rw [List.drop_eq_nil_of_le hge]
    rfl
theorem count_join {c : UInt8} : ∀ {ps : List (List UInt8)}, (∀ p ∈ ps, c ∉ p) → (joinC c ps).count c = ps.length - 1
  | [], _ => rfl
  | [x], h => by
    show x.count c = 0
    exact List.count_eq_zero.2 (h x (by simp))
  | x :: y :: r, h => by
    show (x ++ c :: joinC c (y :: r)).count c = _
    rw [List.count_append, List.count_cons_self, count_join (ps := y :: r) (fun p hp => h p (List.mem_cons_of_mem _ hp)), List.count_eq_zero.2 (h x (by simp))]
    simp only [List.length_cons]
    omega
theorem split_join {c : UInt8} : ∀ {ps : List (List UInt8)}, ps ≠ [] → (∀ p ∈ ps, c ∉ p) → splitK [c] 0 (ps.length - 1) (joinC c ps) = ps
  | [], h0, _ => absurd rfl h0
  | [x], _, _ => rfl
  | x :: y :: r, _, h => by
    show splitK [c] 0 (r.length + 1) (x ++ c :: joinC c (y :: r)) = _
    have hi : index (x ++ c :: joinC c (y :: r)) [c] = (x.length : Int) := index_at (h x (by simp))
    rw [splitK, hi]
    have hne : ((x.length : Int) == -1) = false := by simp
    rw [if_neg (by rw [hne]; decide)]
    have ih := split_join (ps := y :: r) (by simp) (fun p hp => h p (List.mem_cons_of_mem _ hp))
    simp only [List.length_cons, Nat.add_sub_cancel] at ih
    simp only [Int.toNat_natCast, Nat.add_zero, List.length_cons, List.length_nil, Nat.zero_add]
    rw [List.take_left, List.drop_append, List.drop_eq_nil_of_le (by omega), show x.length + 1 - x.length = 1 by omega]
    simp only [List.nil_append, List.drop_succ_cons, List.drop_zero]
    rw [ih]
end Go.Proofs.YtajebdpalnpjdaaGreatDoor
namespace Go.Proofs.YtajebdpalnpjdaaGreatDoor
open Go.RowKit
attribute [local go_sem] alloc_drewN setCell_drewN

/-- Parts with a byte between them. -/
def joinB (c : UInt8) (ps : List ByteArray) : ByteArray := ⟨(joinC c (ps.map fun p => p.data.toList)).toArray⟩
theorem joinB_list (c : UInt8) (ps : List ByteArray) : (joinB c ps).data.toList = joinC c (ps.map fun p => p.data.toList) := rfl
theorem Rd.strs {A : Nat → Prop} {w : World} {b T : Nat} {fz : Nat × Nat} {l : List ByteArray} (h : w.heap[b]? = some (.cells (l.map Value.string).toArray T fz)) (hA : A b) (hi : ∀ n ∈ l, n.size ≤ maxLen) (cap : Nat) (hc : l.length ≤ cap) (hl : cap ≤ 9223372036854775807) : Rd A w [.slice (some ⟨b, 0, none⟩) l.length cap] (.l 1 (l.map .s)) := by
  have e : (l.map Dat.s).length = l.length := List.length_map _
  have hm : ∀ (k : Nat) (x : Dat), (l.map Dat.s)[k]? = some x → ∃ n, l[k]? = some n ∧ x = Dat.s n := fun k x hk => by
    rw [List.getElem?_map] at hk
    obtain ⟨n, hn, rfl⟩ := Option.map_eq_some_iff.1 hk
    exact ⟨n, hn, rfl⟩
  have := Rd.list (A := A) (w := w) (sz := 1) (xs := l.map Dat.s) (some ⟨b, 0, none⟩) cap b 0 (fun k => [.string (l.getD k ByteArray.empty)]) (by rw [e]; exact hc) hl (fun _ => ⟨rfl, hA, lt_of_heap h⟩) (fun _ _ _ => rfl)
    (fun k x hk j u hu => by
      obtain ⟨n, hn, rfl⟩ := hm k x hk
      match j, hu with
      | 0, hu =>
        simp only [List.getElem?_cons_zero, Option.some.injEq] at hu
        rw [show (⟨b, 0 + k * 1 + 0, none⟩ : Addr) = at_ b k by simp, cell_of_blk h]
        simp [hn, ← hu, List.getD_eq_getElem?_getD])
    (fun k x hk => by
      obtain ⟨n, hn, rfl⟩ := hm k x hk
      rw [List.getD_eq_getElem?_getD, hn]
      exact .str n (hi n (List.mem_of_getElem? hn)))
  rw [e] at this
  exact this
theorem joinB_len (c : UInt8) (ps : List ByteArray) : ps.length ≤ (joinB c ps).size + 1 := by
  have key : ∀ l : List (List UInt8), l.length ≤ (joinC c l).length + 1 := by
    intro l
    induction l with
    | nil => simp
    | cons y l ih =>
      cases l with
      | nil => simp
      | cons z l =>
        have e : (joinC c (y :: z :: l)).length = y.length + ((joinC c (z :: l)).length + 1) := by
          show (y ++ c :: joinC c (z :: l)).length = _
          simp
        simp only [List.length_cons] at ih ⊢
        omega
  have h1 := key (ps.map fun p => p.data.toList)
  rw [List.length_map] at h1
  show ps.length ≤ (joinC c (ps.map fun p => p.data.toList)).toArray.size + 1
  simpa using h1
/-- strings.Split at a byte, of parts that do not have it. -/
theorem split_calls {w : World} (G : Glob w) (c : UInt8) {ps : List ByteArray} (h0 : ps ≠ []) (hc : ∀ p ∈ ps, c ∉ p.data.toList) (hs : (joinB c ps).size ≤ 100000) :
    Calls Tryz.prog 18 #[.string (joinB c ps), .string ⟨#[c]⟩] w fun e w' => ∃ v, e = .returned v ∧ Rd (fun b => w.heap.size ≤ b) w' [v] (.l 1 (ps.map .s)) ∧ Ext Nope w w' := by
  obtain ⟨m, hm⟩ := G.max
  have hps : (ps.map fun p => p.data.toList) ≠ [] := by simpa using h0
  have hpc : ∀ p ∈ ps.map (fun p => p.data.toList), c ∉ p := fun p hp => by
    obtain ⟨q, hq, rfl⟩ := List.mem_map.1 hp
    exact hc q hq
  have hn : Lib.countB (joinB c ps) ⟨#[c]⟩ = ps.length - 1 := by
    show Lib.count (joinB c ps).data.toList [c] = _
    rw [Lib.count_one, joinB_list, count_join hpc, List.length_map]
  have hd : (Lib.splitB ⟨#[c]⟩ 0 (ps.length - 1) (joinB c ps)) = ps := by
    have h1 := Lib.splitB_data ⟨#[c]⟩ 0 (ps.length - 1) (joinB c ps)
    rw [show (⟨#[c]⟩ : ByteArray).data.toList = [c] from rfl, joinB_list] at h1
    have h2 := split_join hps hpc
    rw [List.length_map] at h2
    rw [h2] at h1
    have inj : ∀ {a b : List ByteArray}, (a.map fun p => p.data.toList) = (b.map fun p => p.data.toList) → a = b := by
      intro a
      induction a with
      | nil => intro b hb; cases b with
        | nil => rfl
        | cons y b => simp at hb
      | cons x a ih => intro b hb; cases b with
        | nil => simp at hb
        | cons y b =>
          simp only [List.map_cons, List.cons.injEq] at hb
          rw [bytes_ext hb.1, ih hb.2]
    exact inj h1
  have hlen : ps.length - 1 + 1 = ps.length := by
    have : 0 < ps.length := List.length_pos_iff.2 h0
    omega
  have hsz : ∀ p ∈ ps, p.size ≤ maxLen := by
    intro p hp
    have key : ∀ {l : List (List UInt8)} {x : List UInt8}, x ∈ l → x.length ≤ (joinC c l).length := by
      intro l
      induction l with
      | nil => intro x hx; cases hx
      | cons y l ih =>
        intro x hx
        cases l with
        | nil => simp only [List.mem_singleton] at hx; subst hx; exact Nat.le_refl _
        | cons z l =>
          have e : (joinC c (y :: z :: l)).length = y.length + ((joinC c (z :: l)).length + 1) := by
            show (y ++ c :: joinC c (z :: l)).length = _
            simp
          rcases List.mem_cons.1 hx with rfl | h
          · omega
          · have := ih h; omega
    have h1 := key (List.mem_map.2 ⟨p, hp, rfl⟩ : p.data.toList ∈ ps.map fun p => p.data.toList)
    have h2 : (joinC c (ps.map fun p => p.data.toList)).length ≤ 100000 := by
      have : (joinC c (ps.map fun p => p.data.toList)).toArray.size ≤ 100000 := hs
      simpa using this
    have h3 : p.size = p.data.toList.length := by
      show p.data.size = _
      simp
    rw [h3]
    unfold maxLen
    omega
  refine (Tryz.strings_Split (joinB c ps) ⟨#[c]⟩ m w (by omega) hm (Nat.le_refl 1)).mono ?_
  rintro e w' ⟨rfl, rfl⟩
  rw [hn, hlen, hd]
  refine ⟨_, rfl, Rd.strs (heap_alloc_new w _) (Nat.le_refl _) hsz ps.length (Nat.le_refl _) ?_, (Ext.refl _ _).alloc _⟩
  have := joinB_len c ps
  omega
/-- A numeral has no byte but digits and a sign. -/
theorem num_bytes (n : Int) : ∀ c ∈ (num n).data.toList, c = 45 ∨ (48 ≤ c.toNat ∧ c.toNat ≤ 57) := by
  have dec : ∀ u : Nat, ∀ c ∈ Lib.decDigits u, 48 ≤ c.toNat ∧ c.toNat ≤ 57 := by
    intro u
    induction u using Nat.strongRecOn with
    | _ u ih =>
      intro c hc
      by_cases h : u < 10
      · rw [Lib.decDigits_one h] at hc
        simp only [List.mem_singleton] at hc
        rw [hc, digit_nat h]
        omega
      · rw [dec_last h] at hc
        rcases List.mem_append.1 hc with h1 | h1
        · exact ih _ (by omega) c h1
        · simp only [List.mem_singleton] at h1
          rw [h1, digit_nat (Nat.mod_lt _ (by decide))]
          have := Nat.mod_lt u (show 0 < 10 by decide)
          omega
  intro c hc
  rw [num_list] at hc
  unfold Lib.itoa at hc
  split at hc
  · rcases List.mem_cons.1 hc with h | h
    · exact .inl h
    · exact .inr (dec _ c h)
  · exact .inr (dec _ c hc)
theorem num_not {n : Int} {c : UInt8} (h1 : c ≠ 45) (h2 : c.toNat < 48 ∨ 57 < c.toNat) : c ∉ (num n).data.toList := fun h => by
  rcases num_bytes n c h with h | h
  · exact h1 h
  · omega
end Go.Proofs.YtajebdpalnpjdaaGreatDoor
namespace Go.Proofs.YtajebdpalnpjdaaGreatDoor
open Go.RowKit
attribute [local go_sem] alloc_drewN setCell_drewN

theorem info3 : (Tryz.prog.info? 3).map (fun i => (i.zero, i.size, i.bytes)) = some (some (.int .i64 0), 1, 8) := by kernel_rfl
def intCells (l : List Int) : List Value := l.map fun n => Value.int .i64 n
/-- A slice of numbers of one's own. -/
def OwnI (w : World) (base : Nat) (v : Value) (l : List Int) : Prop := w.ownsRow base 3 1 v l.length (intCells l)
theorem OwnI.rd {A : Nat → Prop} {w : World} {base : Nat} {v : Value} {l : List Int} (h : OwnI w base v l) (hA : ∀ b, base ≤ b → A b) (hi : ∀ n ∈ l, i64 n) : Rd A w [v] (intsD l) :=
  Rd.ints h (fun g hg => hA g (World.ownsRow.lt h g hg).1) hi
theorem OwnI.ext0 {w w' : World} {base : Nat} {v : Value} {l : List Int} (h : OwnI w base v l) (e : Ext Nope w w') : OwnI w' base v l := own_ext h e (fun _ _ z => z)
theorem OwnI.mono {w : World} {b b' : Nat} {v : Value} {l : List Int} (h : OwnI w b v l) (hb : b' ≤ b) : OwnI w b' v l := own_base h (fun g hg => Nat.le_trans hb (World.ownsRow.lt h g hg).1)
theorem int_one (l : List Int) : ∀ u ∈ intCells l, u.oneCell' = true := fun u hu => by
  obtain ⟨n, _, rfl⟩ := List.mem_map.1 hu
  rfl
theorem OwnI.nil (w : World) (base : Nat) : OwnI w base (.slice none 0 0) [] := ⟨rfl, .inl ⟨rfl, rfl⟩⟩
theorem OwnI.snoc {w : World} {base : Nat} {v : Value} {l : List Int} {k : Nat} {n : Int} (h : w.ownsRow base 3 1 v (k + 1) (intCells (l.take k) ++ intCells [n])) (hn : l[k]? = some n) : OwnI w base v (l.take (k + 1)) := by
  have hk := (List.getElem?_eq_some_iff.1 hn).1
  have e : l.take (k + 1) = l.take k ++ [n] := by rw [List.take_succ_eq_append_getElem hk, (List.getElem?_eq_some_iff.1 hn).2]
  unfold OwnI
  rw [e, show (l.take k ++ [n]).length = k + 1 by simp; omega]
  unfold intCells at *
  rw [List.map_append]
  exact h
theorem ints_at {w : World} {b T : Nat} {l : List Int} (h : w.heap[b]? = some (.cells (intCells l).toArray T (0, 0))) : ∀ (j : Nat) (u : Value), (intCells l)[j]? = some u → w.cell? (Addr.add ⟨b, 0, none⟩ j) = some u := by
  intro j u hj
  have hadd : Addr.add ⟨b, 0, none⟩ j = at_ b j := by unfold Addr.add; split <;> simp_all
  rw [hadd, cell_of_blk h]
  simpa using hj
theorem nth_some {α : Type} {l : List α} {k n : Nat} (h : k < n) (hl : l.length = n) : ∃ x, l[k]? = some x := ⟨_, List.getElem?_eq_getElem (by rw [hl]; exact h)⟩
/-- A text of a list of texts. -/
theorem strs_at {A : Nat → Prop} {w : World} {a : Option Addr} {n cap : Nat} {xs : List ByteArray} (h : Rd A w [.slice a n cap] (.l 1 (xs.map .s))) {k : Nat} {x : ByteArray} (hk : xs[k]? = some x) : ∃ b off, a = some ⟨b, off, none⟩ ∧ w.cell? ⟨b, off + k, none⟩ = some (.string x) := by
  obtain ⟨a', cap', hv, _, _, hl⟩ := h.l_inv
  simp only [List.cons.injEq, Value.slice.injEq, and_true] at hv
  obtain ⟨rfl, _, rfl⟩ := hv
  have hlt := (List.getElem?_eq_some_iff.1 hk).1
  obtain ⟨b, off, rfl, _, _, hat⟩ := hl (by rw [List.length_map]; omega)
  obtain ⟨us, _, hu, hr⟩ := hat k (.s x) (by rw [List.getElem?_map, hk]; rfl)
  obtain ⟨rfl, _⟩ := hr.s_inv
  exact ⟨b, off, rfl, by simpa using hu 0 _ rfl⟩
set_option maxHeartbeats 2000000 in
/-- source.values: numerals with a byte between them. -/
theorem values_ok {w : World} (G : Glob w) (hg : 11 ≤ w.heap.size) (c : UInt8) (hc1 : c ≠ 45) (hc2 : c.toNat < 48 ∨ 57 < c.toNat) {l : List Int} (h0 : l ≠ []) (hl : ∀ n ∈ l, -9999999 ≤ n ∧ n ≤ 9999999) (hs : (joinB c (l.map num)).size ≤ 100000) (many : Int) (hm : many = l.length ∨ many < 0) :
    Calls Tryz.prog 62 #[.string (joinB c (l.map num)), .string ⟨#[c]⟩, .int .i64 many] w fun e w' => ∃ v, e = .returned v ∧ OwnI w' w.heap.size v l ∧ Ext Nope w w' := by
  have HS := toHid (split_calls G c (ps := l.map num) (by simpa using h0) (fun p hp => by obtain ⟨n, _, rfl⟩ := List.mem_map.1 hp; exact num_not hc1 hc2) hs)
  have HG := toHid G
  have HL := toHid hl
  have hlen : l.length ≤ 100001 := by
    have := joinB_len c (l.map num)
    rw [List.length_map] at this
    omega
  obtain ⟨m, HM⟩ : ∃ m, Hid (l.length = m) := ⟨_, rfl⟩
  rw [HM.out] at hm hlen
  generalize joinB c (l.map num) = s at *
  clear G hl hs h0
  obtain ⟨i0, hi, hz0, hz1, hz2⟩ := info_parts info3
  have HI := toHid (show _ ∧ _ ∧ _ ∧ _ from ⟨hi, hz0, hz1, hz2⟩)
  clear hi hz0 hz1 hz2
  have hcs : many = (m : Int) ∨ (((m : Int) == many) = false ∧ decide (many < 0) = true) := by
    rcases hm with h | h
    · exact .inl h
    · exact .inr ⟨by simp; omega, by simpa using h⟩
  clear hm
  go_enter Tryz.func62, Tryz.ntmps62
  go_wp2_with fail
  refine HS.out.mono ?_
  rintro e w2 ⟨v, rfl, r2, e2⟩
  obtain ⟨a, cap, hv, hc, _⟩ := r2.len
  rw [List.length_map, List.length_map, HM.out] at hv hc
  subst hv
  have H2 := toHid (show _ ∧ _ from ⟨r2, e2⟩)
  clear r2 e2 HS hc
  rcases hcs with rfl | ⟨q1, q2⟩
  all_goals
    go_wp2_with fail
    refine (need_yes _).mono ?_
    rintro e w3 ⟨rfl, rfl⟩
    go_wp2_with fail
    go_loopw [8, 25] (fun o i wr => ∃ k : Nat, i = .int .i64 k ∧ k ≤ m ∧ OwnI wr w2.heap.size o (l.take k) ∧ Ext Nope w2 wr) (fun _ i _ => m - (intOf i).toNat)
    case atStart => exact ⟨0, rfl, Nat.zero_le _, OwnI.nil _ _, Ext.refl _ _⟩
    case round =>
      obtain ⟨k, rfl, hk, hO, hE⟩ := hrel
      rename World => wr
      have HK := toHid (show _ ∧ _ from ⟨hO, hE⟩)
      clear hO hE
      by_cases hkm : k < m
      · obtain ⟨n, hn⟩ := nth_some hkm HM.out
        have hr := H2.out.1.ext0 HK.out.2
        obtain ⟨b, off, rfl, ct⟩ := strs_at hr (k := k) (x := num n) (by rw [List.getElem?_map, hn]; rfl)
        have hb := HL.out n (List.mem_of_getElem? hn)
        have HV := toHid (value_ok ((HG.out.ext0 H2.out.2).ext0 HK.out.2) hb.1 hb.2)
        have HNN := toHid hn
        have s1 : (0 : Int) ≤ (k : Int) := by omega
        have s2 : (k : Int) < (m : Int) := by omega
        clear hr hb hn
        generalize num n = t at *
        go_wp2_with fail
        refine HV.out.mono ?_
        rintro e w4 ⟨rfl, e4⟩
        have H4 := toHid e4
        have hown : w4.ownsRow w2.heap.size 3 1 u8 k (intCells (l.take k)) := by
          have h := HK.out.1.ext0 e4
          unfold OwnI at h
          rw [List.length_take, HM.out, Nat.min_eq_left hk] at h
          exact h
        clear e4 HV
        obtain ⟨hi, hz0, hz1, hz2⟩ := HI.out
        go_wp2_with (first | (at_builtin; refine wpList_append_own _ rfl (.tmp 29) (.tmp 32) 24 rfl w2.heap.size 3 i0 _ 1 8 Tryz.underlying24 hi hz0 hz1 hz2 rfl (by decide) _ _ _ rfl (hown.alloc _) ⟨w4.heap.size, 0, none⟩ 1 1 (intCells [n]) rfl rfl (ints_at (heap_alloc_new w4 _)) (int_one _) (by unfold maxLen; omega) (by omega) (by have h1 := H4.out.size; have h2 := HK.out.2.size; simp; omega) ?_))
        intro v' w' hown' hgrow _
        have HW := toHid (show _ ∧ _ from ⟨OwnI.snoc hown' HNN.out, Ext.grown ((ext0 HK.out.2 H4.out).alloc _) hgrow (fun g hg hlt => absurd hlt (by have := (World.ownsRow.lt hown g hg).1; omega))⟩)
        clear hown' hgrow hown hi hz0 hz1 hz2
        go_wp2
        go_roundw
        case rel => exact ⟨k + 1, by go_num, by omega, HW.out.1, HW.out.2⟩
        case measure => simp [intOf]; omega
      · have hkk : k = m := by omega
        subst hkk
        have s2 : decide ((k : Int) < (k : Int)) = false := by simp
        go_wp2
        go_ret
        refine ⟨_, rfl, ?_, ext0 H2.out.2 HK.out.2⟩
        have h := HK.out.1.mono H2.out.2.size
        rwa [List.take_of_length_le (by rw [HM.out]; exact Nat.le_refl _)] at h
end Go.Proofs.YtajebdpalnpjdaaGreatDoor
