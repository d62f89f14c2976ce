/-
  Numerals: what is written is read again. No program is named here.
  The library's variables: what they hold, and that they stay.
  Numbers of a line.
-/
import Derived.Lib.ItoaNum
import Derived.Lib.ItoaLen
import Derived.Lib.AtoiAll
import Derived.Lib.Strings
import Derived.Test.YtajebdpalnpjdaaGreatDoorM01
import Derived.Test.YtajebdpalnpjdaaGreatDoorSh
namespace Go.Proofs.YtajebdpalnpjdaaGreatDoor
open Go.Lib

theorem dec_last {u : Nat} (h : ¬ u < 10) : decDigits u = decDigits (u / 10) ++ [UInt8.ofNat (48 + u % 10)] := by
  conv => lhs; rw [decDigits, dif_neg h]
theorem digit_nat {d : Nat} (h : d < 10) : (UInt8.ofNat (48 + d)).toNat = 48 + d := by
  rw [UInt8.toNat_ofNat']
  omega
theorem parse_dec (r : List UInt8) : ∀ u : Nat, u < 18446744073709551616 → parseUint10 0 (decDigits u ++ r) = parseUint10 u r := by
  intro u
  induction u using Nat.strongRecOn generalizing r with
  | _ u ih =>
    intro hu
    by_cases h : u < 10
    · rw [decDigits_one h]
      simp only [List.cons_append, List.nil_append]
      rw [parseUint10, digit_nat h, if_pos (by omega), if_neg (by omega), if_neg (by omega)]
      congr 1
      omega
    · rw [dec_last h, List.append_assoc, ih (u / 10) (by omega) _ (by omega)]
      simp only [List.cons_append, List.nil_append]
      have hd : u % 10 < 10 := Nat.mod_lt _ (by decide)
      rw [parseUint10, digit_nat hd, if_pos (by omega), if_neg (by omega), if_neg (by omega)]
      congr 1
      omega
theorem dec_head (u : Nat) : ∃ c r, decDigits u = c :: r ∧ 48 ≤ c.toNat ∧ c.toNat ≤ 57 := by
  induction u using Nat.strongRecOn with
  | _ u ih =>
    by_cases h : u < 10
    · exact ⟨_, [], decDigits_one h, by rw [digit_nat h]; omega, by rw [digit_nat h]; omega⟩
    · obtain ⟨c, r, e, h1, h2⟩ := ih (u / 10) (by omega)
      exact ⟨c, r ++ [UInt8.ofNat (48 + u % 10)], by rw [dec_last h, e]; rfl, h1, h2⟩
theorem parseMag_dec {u : Nat} (h : u < 18446744073709551616) : parseMag (decDigits u) = .ok u := by
  obtain ⟨c, r, e, _⟩ := dec_head u
  have h0 := parse_dec [] u h
  rw [List.append_nil] at h0
  unfold parseMag
  rw [if_neg (by rw [e]; simp), h0]
  rfl
theorem atoi_itoa {n : Int} (h1 : -9223372036854775808 ≤ n) (h2 : n ≤ 9223372036854775807) : atoiAll (itoa n) = .ok n := by
  by_cases h : n < 0
  · have e : itoa n = 45 :: decDigits n.natAbs := by unfold itoa; rw [if_pos h]
    rw [e]
    unfold atoiAll
    simp only [show ((45 : UInt8).toNat = 45) from rfl, or_true, if_true, parseMag_dec (show n.natAbs < 18446744073709551616 by omega), not_true_eq_false, false_and, if_false, true_and]
    rw [if_neg (by omega)]
    congr 1
    omega
  · have e : itoa n = decDigits n.toNat := by unfold itoa; rw [if_neg h]
    rw [e]
    obtain ⟨c, r, e2, h3, h4⟩ := dec_head n.toNat
    have hp := parseMag_dec (show n.toNat < 18446744073709551616 by omega)
    rw [e2] at hp ⊢
    unfold atoiAll
    simp only
    rw [if_neg (by omega), hp]
    simp only
    rw [if_neg (by omega), if_neg (by omega)]
    congr 1
    rw [if_neg (by omega)]
    omega
/-- A zero in front of a numeral: it is read, or it is none. -/
theorem atoi_zero {n : Int} (h1 : -9223372036854775808 ≤ n) (h2 : n ≤ 9223372036854775807) : ∀ v, atoiAll (48 :: itoa n) = .ok v → v = n ∧ 0 ≤ n := by
  intro v hv
  by_cases h : n < 0
  · have e : itoa n = 45 :: decDigits n.natAbs := by unfold itoa; rw [if_pos h]
    rw [e] at hv
    exfalso
    unfold atoiAll at hv
    simp only [show ((48 : UInt8).toNat = 48) from rfl] at hv
    rw [if_neg (by omega)] at hv
    unfold parseMag at hv
    rw [if_neg (by simp)] at hv
    rw [parseUint10, if_pos (by decide), if_neg (by decide), if_neg (by decide), parseUint10, if_neg (by decide)] at hv
    cases hv
  · have e : itoa n = decDigits n.toNat := by unfold itoa; rw [if_neg h]
    rw [e] at hv
    have h0 := parse_dec [] n.toNat (by omega)
    rw [List.append_nil] at h0
    unfold atoiAll at hv
    simp only [show ((48 : UInt8).toNat = 48) from rfl] at hv
    rw [if_neg (by omega)] at hv
    unfold parseMag at hv
    rw [if_neg (by simp)] at hv
    rw [parseUint10, if_pos (by decide), if_neg (by decide), if_neg (by decide)] at hv
    rw [show 0 * 10 + ((48 : UInt8).toNat - 48) = 0 from rfl, h0, parseUint10] at hv
    simp only at hv
    rw [if_neg (by omega), if_neg (by omega), if_neg (by decide)] at hv
    injection hv with hv
    omega
theorem itoa_zero_ne (n : Int) : itoa n ≠ 48 :: itoa n := fun h => by
  have := congrArg List.length h
  simp at this
/-- How many digits a numeral has. -/
theorem itoa_digits (n : Int) : (trimPrefix (itoa n) [45]).length = nDigits n.natAbs := by
  by_cases h : n < 0
  · have e : itoa n = 45 :: decDigits n.natAbs := by unfold itoa; rw [if_pos h]
    rw [e]
    unfold trimPrefix hasPrefix
    simp [decDigits_length]
  · have e : itoa n = decDigits n.toNat := by unfold itoa; rw [if_neg h]
    obtain ⟨c, r, e2, h3, h4⟩ := dec_head n.toNat
    have hl := decDigits_length n.toNat
    have hc : ([45] : List UInt8).isPrefixOf (decDigits n.toNat) = false := by
      rw [e2]
      have : (45 : UInt8) ≠ c := fun h => by rw [← h] at h3; revert h3; decide
      simp [List.isPrefixOf, this]
    rw [e]
    unfold trimPrefix hasPrefix
    rw [hc]
    simp only [Bool.false_eq_true, if_false]
    rw [hl, show n.natAbs = n.toNat by omega]
theorem digits_le7 {u : Nat} : nDigits u ≤ 7 ↔ u ≤ 9999999 := by
  constructor
  · intro h
    have h1 := lt_pow_nDigits u
    have h2 : 10 ^ nDigits u ≤ 10 ^ 7 := Nat.pow_le_pow_right (by decide) h
    have h3 : (10 : Nat) ^ 7 = 10000000 := rfl
    omega
  · intro h
    rcases Nat.lt_or_ge 7 (nDigits u) with h7 | h7
    · exfalso
      have key : ∀ k u : Nat, nDigits u = k + 1 → u = 0 ∨ 10 ^ k ≤ u := by
        intro k
        induction k with
        | zero => intro u _; omega
        | succ k ih =>
          intro u hu
          by_cases h10 : u < 10
          · rw [nDigits_small h10] at hu; omega
          · rw [nDigits_big h10] at hu
            rcases ih (u / 10) (by omega) with h0 | h0
            · omega
            · right
              rw [Nat.pow_succ]
              omega
      obtain ⟨k, hk⟩ : ∃ k, nDigits u = k + 1 := ⟨nDigits u - 1, by omega⟩
      rcases key k u hk with h0 | h0
      · rw [h0, nDigits_small (by decide)] at h7; omega
      · have h2 : 10 ^ 7 ≤ 10 ^ k := Nat.pow_le_pow_right (by decide) (by omega)
        have h3 : (10 : Nat) ^ 7 = 10000000 := rfl
        omega
    · exact h7
end Go.Proofs.YtajebdpalnpjdaaGreatDoor
namespace Go.Proofs.YtajebdpalnpjdaaGreatDoor
open Go.RowKit

theorem var_block {w w' : World} {S : Nat → Prop} {name : String} {g : Nat} {cs : Array Value} (hg : Tryz.prog.globalNamed name = some g) (h : w.var? Tryz.prog name = some cs) (e : Ext S w w') (hs : ¬ S g) : w'.var? Tryz.prog name = some cs := by
  unfold World.var? at h ⊢
  rw [hg] at h ⊢
  simp only [Option.bind_some] at h ⊢
  have hlt : g < w.heap.size := by
    rcases Nat.lt_or_ge g w.heap.size with h' | h'
    · exact h'
    · rw [Array.getElem?_eq_none h'] at h; cases h
  rw [e.block g hlt hs]
  exact h
/-- What the library's variables hold. -/
structure Glob (w : World) : Prop where
  max : ∃ m, w.cell? ⟨1, 0, none⟩ = some (.int .i64 m)
  pow : Lib.TabIs Tryz.prog w "internal/strconv.uint64pow10" .u64 Lib.pow10Tab
  spc : Lib.TabIs Tryz.prog w "strings.asciiSpace" .u8 Lib.asciiSpaceTab
  syn : ∃ tp p, w.var? Tryz.prog "strconv.ErrSyntax" = some #[.iface tp p]
  rng : ∃ tp p, w.var? Tryz.prog "strconv.ErrRange" = some #[.iface tp p]
theorem Glob.ext {w w' : World} {S : Nat → Prop} (h : Glob w) (e : Ext S w w') (hs : ∀ g, g < 11 → ¬ S g) : Glob w' := by
  obtain ⟨⟨m, hm⟩, h2, h3, ⟨t1, p1, h4⟩, ⟨t2, p2, h5⟩⟩ := h
  refine ⟨⟨m, ?_⟩, var_block (g := 5) (by kernel_rfl) h2 e (hs _ (by decide)), var_block (g := 0) (by kernel_rfl) h3 e (hs _ (by decide)), ⟨t1, p1, var_block (g := 6) (by kernel_rfl) h4 e (hs _ (by decide))⟩, ⟨t2, p2, var_block (g := 7) (by kernel_rfl) h5 e (hs _ (by decide))⟩⟩
  exact (World.cell?_of_block (w := w) (a := ⟨1, 0, none⟩) (e.block _ (World.block_lt_of_cell? _ _ hm) (hs _ (by decide)))).trans hm
theorem Glob.ext0 {w w' : World} (h : Glob w) (e : Ext Nope w w') : Glob w' := h.ext e (fun _ _ z => z)
/-- A world that has grown. -/
theorem Ext.below {w w' : World} (h : Below w.heap.size w w') : Ext Nope w w' := by
  exact ⟨h.os, h.tape, h.output, h.size, fun i hi _ => h.block i hi⟩
theorem Ext.grown1 {S : Nat → Prop} {a b : World} (h : Ext S a b) (n : Nat) (os : Array Obj) : Ext S a (Go.Sort.grow (b.drewN n) os) := by
  refine ⟨h.os, h.tape, h.output, by simp only [Go.Sort.grow, Array.size_append]; have := h.size; exact Nat.le_trans this (Nat.le_add_right _ _), fun i hi hn => ?_⟩
  have hb : i < b.heap.size := Nat.lt_of_lt_of_le hi h.size
  show (b.heap ++ os)[i]? = _
  rw [Array.getElem?_append_left hb]
  exact h.block i hi hn
theorem Ext.bytes (w : World) (e : TypeId) (s : ByteArray) : Ext Nope w (Lib.bytesWorld w e s) := by
  refine ⟨rfl, rfl, rfl, ?_, fun i hi _ => ?_⟩
  · unfold Lib.bytesWorld World.freeze
    simp
  · unfold Lib.bytesWorld World.freeze
    simp only [Nat.succ_ne_zero, if_false, Array.getElem?_modify]
    rw [if_neg (by omega)]
    exact heap_alloc_old w.drew _ i hi
end Go.Proofs.YtajebdpalnpjdaaGreatDoor
namespace Go.Proofs.YtajebdpalnpjdaaGreatDoor
open Go.RowKit
attribute [local go_sem] alloc_drewN setCell_drewN

/-- A numeral. -/
def num (n : Int) : ByteArray := ⟨(Lib.itoa n).toArray⟩
theorem num_list (n : Int) : (num n).data.toList = Lib.itoa n := rfl
theorem num_size {n : Int} (h1 : -9223372036854775808 ≤ n) (h2 : n ≤ 9223372036854775807) : (num n).size ≤ 21 := by
  have := Lib.itoa_length_le n h1 h2
  show (Lib.itoa n).toArray.size ≤ 21
  simpa using this
theorem bytes_ext {a b : ByteArray} (h : a.data.toList = b.data.toList) : a = b := by
  cases a; cases b; congr 1; exact Array.toList_inj.1 h
/-- strconv.Itoa -/
theorem itoa_calls {w : World} (G : Glob w) {n : Int} (h : i64 n) : Calls Tryz.prog 99 #[.int .i64 n] w fun e w' => e = .returned (.string (num n)) ∧ Ext Nope w w' :=
  (Tryz.strconv_Itoa n h.1 h.2 w G.pow).mono fun _ _ ⟨he, _, _, hw⟩ => ⟨he, by subst hw; exact (Ext.refl _ _).grown1 _ _⟩
theorem atoi_calls {w : World} {s : ByteArray} (hs : s.size ≤ 100000) {n : Int} (h : Lib.atoiAll s.data.toList = .ok n) : Calls Tryz.prog 194 #[.string s] w fun e w' => e = .returned (.tuple #[.int .i64 n, .nilIface]) ∧ Ext Nope w w' :=
  (Tryz.strconv_Atoi_ok s (by omega) n h w).mono fun _ _ ⟨he, hw⟩ => ⟨he, by
    rcases hw with rfl | ⟨t, rfl⟩
    · exact Ext.refl _ _
    · exact Ext.bytes _ _ _⟩
/-- What Atoi does not read. -/
theorem atoi_wrong {w : World} (G : Glob w) {s : ByteArray} (hs : s.size ≤ 100000) (h : ∀ n, Lib.atoiAll s.data.toList ≠ .ok n) : Calls Tryz.prog 194 #[.string s] w fun e w' => ∃ n N, e = .returned (.tuple #[.int .i64 n, .iface 387 (ptr N)]) ∧ Ext Nope w w' := by
  obtain ⟨t1, p1, h1⟩ := G.syn
  obtain ⟨t2, p2, h2⟩ := G.rng
  cases hk : Lib.atoiAll s.data.toList with
  | ok n => exact absurd hk (h n)
  | «syntax» => exact (Tryz.strconv_Atoi_syntax_var s (by omega) hk t1 p1 w h1).mono fun _ _ ⟨N, he, _, _, hw⟩ => ⟨_, N, he, Ext.below hw⟩
  | range => exact (Tryz.strconv_Atoi_range_var s (by omega) hk t2 p2 w h2).mono fun _ _ ⟨N, he, _, _, hw⟩ => ⟨_, N, he, Ext.below hw⟩
theorem trim_calls (s p : ByteArray) (w : World) : Calls Tryz.prog 195 #[.string s, .string p] w fun e w' => e = .returned (.string ⟨(Lib.trimPrefix s.data.toList p.data.toList).toArray⟩) ∧ w = w' :=
  (Tryz.strings_TrimPrefix s p w).mono fun _ _ ⟨he, hw⟩ => ⟨he, hw.symm⟩
set_option maxHeartbeats 1000000 in
/-- source.value: a numeral of at most seven digits. -/
theorem value_ok {w : World} (G : Glob w) {n : Int} (h1 : -9999999 ≤ n) (h2 : n ≤ 9999999) : Calls Tryz.prog 129 #[.string (num n)] w fun e w' => e = .returned (.int .i64 n) ∧ Ext Nope w w' := by
  have HG := toHid G
  have hi : i64 n := ⟨by omega, by omega⟩
  have HA := toHid (atoi_calls (w := w) (s := num n) (by have := num_size hi.1 hi.2; omega) (atoi_itoa hi.1 hi.2))
  have HI := toHid (show ∀ W, Ext Nope w W → _ from fun W e => itoa_calls (G.ext0 e) hi)
  have HT := toHid (show ∃ t : ByteArray, t.size ≤ 7 ∧ ∀ W, Calls Tryz.prog 195 #[.string (num n), .string ⟨#[45]⟩] W (fun e w' => e = .returned (.string t) ∧ W = w') from ⟨_, (by
    have := (digits_le7 (u := n.natAbs)).2 (by omega)
    rw [← itoa_digits, ← num_list] at this
    show (Lib.trimPrefix (num n).data.toList [45]).toArray.size ≤ 7
    simpa using this), fun W => trim_calls (num n) ⟨#[45]⟩ W⟩)
  obtain ⟨t, ht, HTr⟩ := HT.out
  have HT2 := toHid HTr
  clear G HT HTr
  generalize num n = s at *
  have s2 : (t.size : Int) ≤ 7 := by omega
  clear ht
  go_enter Tryz.func129, Tryz.ntmps129
  go_wp2_with fail
  refine HA.out.mono ?_
  rintro e w2 ⟨rfl, e2⟩
  have H2 := toHid e2
  clear e2 HA
  go_wp2_with fail
  refine (HI.out _ H2.out).mono ?_
  rintro e w3 ⟨rfl, e3⟩
  have H3 := toHid (ext0 H2.out e3)
  clear e3
  go_wp2_with fail
  refine (HT2.out _).mono ?_
  rintro e w4 ⟨rfl, rfl⟩
  go_wp2_with fail
  refine (need_yes _).mono ?_
  rintro e w4 ⟨rfl, rfl⟩
  go_wp2
  go_ret
  exact ⟨rfl, H3.out⟩
theorem bytes_ne {a b : ByteArray} (h : a ≠ b) : (a.toList == b.toList) = false := by
  rw [ByteArray.toList_eq, ByteArray.toList_eq, beq_eq_false_iff_ne]
  exact fun e => h (bytes_ext e)
set_option maxHeartbeats 1000000 in
/-- source.value: what is no such numeral. -/
theorem value_bad {w : World} (G : Glob w) {s : ByteArray} (hs : s.size ≤ 100000) (h : ∀ n, Lib.atoiAll s.data.toList = .ok n → i64 n ∧ (num n ≠ s ∨ 9999999 < n.natAbs)) : Calls Tryz.prog 129 #[.string s] w fun e w' => e = givenUp ∧ Ext Nope w w' := by
  by_cases hex : ∃ n, Lib.atoiAll s.data.toList = .ok n
  · obtain ⟨n, hn⟩ := hex
    obtain ⟨hi, hor⟩ := h n hn
    have HA := toHid (atoi_calls (w := w) hs hn)
    have HI := toHid (show ∀ W, Ext Nope w W → _ from fun W e => itoa_calls (G.ext0 e) hi)
    clear h hn hs G
    by_cases hns : num n = s
    · have hlong : 9999999 < n.natAbs := hor.resolve_left (fun h => h hns)
      have HT := toHid (show ∃ t : ByteArray, ¬ t.size ≤ 7 ∧ ∀ W, Calls Tryz.prog 195 #[.string (num n), .string ⟨#[45]⟩] W (fun e w' => e = .returned (.string t) ∧ W = w') from ⟨_, (fun h7 => by
        have := (digits_le7 (u := n.natAbs)).1 (by
          rw [← itoa_digits, ← num_list]
          simpa using (show (Lib.trimPrefix (num n).data.toList [45]).toArray.size ≤ 7 from h7))
        omega), fun W => trim_calls (num n) ⟨#[45]⟩ W⟩)
      obtain ⟨t, ht, HTr⟩ := HT.out
      have HT2 := toHid HTr
      clear HT HTr hor hlong
      rw [hns] at HT2 HI
      have s2 : decide ((t.size : Int) ≤ 7) = false := by simp; omega
      have s3 : decide (t.size ≤ 7) = false := by simp; omega
      clear ht hns
      go_enter Tryz.func129, Tryz.ntmps129
      go_wp2_with fail
      refine HA.out.mono ?_
      rintro e w2 ⟨rfl, e2⟩
      have H2 := toHid e2
      clear e2 HA
      go_wp2_with fail
      refine (HI.out _ H2.out).mono ?_
      rintro e w3 ⟨rfl, e3⟩
      have H3 := toHid (ext0 H2.out e3)
      clear e3
      go_wp2_with fail
      refine (HT2.out _).mono ?_
      rintro e w4 ⟨rfl, rfl⟩
      go_wp2_with fail
      refine (need_no _).mono ?_
      rintro e w4 ⟨rfl, rfl⟩
      exact ⟨rfl, rfl, H3.out⟩
    · have s1 := bytes_ne hns
      clear hor hns
      generalize num n = t at *
      go_enter Tryz.func129, Tryz.ntmps129
      go_wp2_with fail
      refine HA.out.mono ?_
      rintro e w2 ⟨rfl, e2⟩
      have H2 := toHid e2
      clear e2 HA
      go_wp2_with fail
      refine (HI.out _ H2.out).mono ?_
      rintro e w3 ⟨rfl, e3⟩
      have H3 := toHid (ext0 H2.out e3)
      clear e3
      go_wp2_with fail
      refine (need_no _).mono ?_
      rintro e w4 ⟨rfl, rfl⟩
      exact ⟨rfl, rfl, H3.out⟩
  · have HA := toHid (atoi_wrong G hs (fun n hn => hex ⟨n, hn⟩))
    clear h hex G hs
    go_enter Tryz.func129, Tryz.ntmps129
    go_wp2_with fail
    refine HA.out.mono ?_
    rintro e w2 ⟨n, N, rfl, e2⟩
    have H2 := toHid e2
    clear e2 HA
    go_wp2_with fail
    refine (need_no _).mono ?_
    rintro e w4 ⟨rfl, rfl⟩
    exact ⟨rfl, rfl, H2.out⟩
/-- reader.number -/
theorem number_ok {w : World} (G : Glob w) {rb : Nat} {B : Nat → Prop} {cs : List Value} {n : Int} {ws : List ByteArray} (hb : 11 ≤ rb) (h : RL w rb B cs (num n :: ws)) (h1 : -9999999 ≤ n) (h2 : n ≤ 9999999) : Calls Tryz.prog 57 #[ptr rb] w fun e w' => e = .returned (.int .i64 n) ∧ RL w' rb B cs ws ∧ Ext (fun b => b = rb) w w' := by
  have HN := toHid (next_some h)
  have HG := toHid G
  clear h G
  go_enter Tryz.func57, Tryz.ntmps57
  go_wp2_with fail
  refine HN.out.mono ?_
  rintro e w2 ⟨rfl, _, r2, e2⟩
  have H2 := toHid (show _ ∧ _ from ⟨r2, e2⟩)
  clear r2 e2 HN
  go_wp2_with fail
  refine (value_ok (HG.out.ext H2.out.2 (fun g hg z => by omega)) h1 h2).mono ?_
  rintro e w3 ⟨rfl, e3⟩
  have H3 := toHid (show _ ∧ _ from ⟨H2.out.1.ext0 e3, ext0 H2.out.2 e3⟩)
  clear e3
  go_wp2
  go_ret
  exact ⟨rfl, H3.out.1, H3.out.2⟩
theorem number_bad {w : World} (G : Glob w) {rb : Nat} {B : Nat → Prop} {cs : List Value} {s : ByteArray} {ws : List ByteArray} (hb : 11 ≤ rb) (h : RL w rb B cs (s :: ws)) (hs : s.size ≤ 100000) (hv : ∀ n, Lib.atoiAll s.data.toList = .ok n → i64 n ∧ (num n ≠ s ∨ 9999999 < n.natAbs)) : Calls Tryz.prog 57 #[ptr rb] w fun e w' => e = givenUp ∧ RL w' rb B cs ws ∧ Ext (fun b => b = rb) w w' := by
  have HN := toHid (next_some h)
  have HG := toHid G
  have HV := toHid hv
  clear h G hv
  go_enter Tryz.func57, Tryz.ntmps57
  go_wp2_with fail
  refine HN.out.mono ?_
  rintro e w2 ⟨rfl, _, r2, e2⟩
  have H2 := toHid (show _ ∧ _ from ⟨r2, e2⟩)
  clear r2 e2 HN
  go_wp2_with fail
  refine (value_bad (HG.out.ext H2.out.2 (fun g hg z => by omega)) hs HV.out).mono ?_
  rintro e w3 ⟨rfl, e3⟩
  exact ⟨rfl, rfl, H2.out.1.ext0 e3, ext0 H2.out.2 e3⟩
end Go.Proofs.YtajebdpalnpjdaaGreatDoor
