/-
  The law's 'digits': numbers in decimal.
  source.Parse of texts whose first line has no numeral.
-/
import Derived.Test.YtajebdpalnpjdaaGreatDoorM14
namespace Go.Proofs.YtajebdpalnpjdaaGreatDoor
open Go.RowKit
attribute [local go_sem] alloc_drewN setCell_drewN

/-- The digits of a number, none for zero. -/
def digs (u : Nat) : List UInt8 := if u = 0 then [] else Lib.decDigits u
theorem digs_step {u : Nat} (h : 0 < u) : digs u = digs (u / 10) ++ [UInt8.ofNat (48 + u % 10)] := by
  unfold digs
  rw [if_neg (by omega)]
  by_cases h10 : u < 10
  · rw [if_pos (by omega), Lib.decDigits, dif_pos h10, show u % 10 = u by omega]
    rfl
  · rw [if_neg (by omega), dec_last h10]
theorem natAbs_mod (n : Int) : (n.tmod 10).natAbs = n.natAbs % 10 := by
  rw [Int.natAbs_tmod]
  rfl
theorem natAbs_div (n : Int) : (n.tdiv 10).natAbs = n.natAbs / 10 := by
  rw [Int.natAbs_tdiv]
  rfl
/-- What stands of the digits after some rounds. -/
def DigAt (n nn : Int) (s : ByteArray) : Prop := (s.data.toList = [] ∧ nn = n) ∨ (s.data.toList ≠ [] ∧ Lib.decDigits n.natAbs = digs nn.natAbs ++ s.data.toList)
theorem DigAt.step {n nn : Int} {s : ByteArray} (h : DigAt n nn s) (hgo : nn ≠ 0 ∨ s.data.toList = []) : DigAt n (nn.tdiv 10) ⟨#[UInt8.ofNat (48 + nn.natAbs % 10)] ++ s.data⟩ := by
  right
  refine ⟨by simp, ?_⟩
  rw [natAbs_div]
  rcases h with ⟨hs, rfl⟩ | ⟨hs, hd⟩
  · simp only [Array.toList_append, hs, List.append_nil]
    by_cases h0 : nn = 0
    · subst h0
      show Lib.decDigits 0 = digs 0 ++ [UInt8.ofNat 48]
      rw [show digs 0 = [] from rfl, Lib.decDigits, dif_pos (by omega)]
      rfl
    · have h := digs_step (u := nn.natAbs) (by omega)
      rw [← h]
      unfold digs
      rw [if_neg (by omega)]
  · have h0 : nn ≠ 0 := hgo.resolve_right hs
    rw [hd, digs_step (u := nn.natAbs) (by omega)]
    simp
theorem DigAt.last {n : Int} {s : ByteArray} (h : DigAt n 0 s) (hs : s.data.toList ≠ []) : s.data.toList = Lib.decDigits n.natAbs := by
  rcases h with ⟨h, _⟩ | ⟨_, h⟩
  · exact absurd h hs
  · rw [h]; rfl
theorem wrap_u8 (n : Nat) (h : n < 256) : IntKind.u8.wrap (n : Int) = (n : Int) := by
  simp [IntKind.wrap, IntKind.bits, IntKind.signed]
  omega
theorem conv_one (w : World) (k : Nat) (hk : k < 10) : (convert 57 9 (.slice (some ⟨w.heap.size, 0, none⟩) 1 1)).run Tryz.prog (w.alloc (.cells #[.int .u8 (48 + (k : Int))] 5)) = .ok (.string ⟨#[UInt8.ofNat (48 + k)]⟩) (w.alloc (.cells #[.int .u8 (48 + (k : Int))] 5)) := by
  refine run_convert_bytes_back (P := Tryz.prog) _ 57 9 5 ⟨w.heap.size, 0, none⟩ 1 [UInt8.ofNat (48 + k)] Tryz.underlying57 Tryz.underlying5 Tryz.underlying9 fun j hj => ?_
  have hj0 : j = 0 := by simpa using hj
  subst hj0
  rw [show (Addr.add ⟨w.heap.size, 0, none⟩ 0) = at_ w.heap.size 0 from rfl, cell_of_blk (heap_alloc_new w _)]
  have := digit_nat hk
  simp only [List.getElem_cons_zero, this]
  rfl
theorem append_data (c : UInt8) (t : ByteArray) : (⟨#[c]⟩ : ByteArray) ++ t = ⟨#[c] ++ t.data⟩ := by
  apply ByteArray.ext
  rw [ByteArray.data_append]
theorem DigAt.size {n nn : Int} {s : ByteArray} (h : DigAt n nn s) : s.size ≤ (num n).size := by
  have hh : ∀ b : ByteArray, b.size = b.data.toList.length := fun b => rfl
  rw [hh, hh, num_list]
  rcases h with ⟨h, _⟩ | ⟨_, h⟩
  · rw [h]; exact Nat.zero_le _
  · have h2 := congrArg List.length h
    rw [List.length_append] at h2
    have h3 : (Lib.decDigits n.natAbs).length ≤ (Lib.itoa n).length := by
      unfold Lib.itoa
      split
      · rw [List.length_cons]; omega
      · rw [show n.toNat = n.natAbs by omega]; exact Nat.le_refl _
    omega
theorem wrap64_in {x : Int} (h : i64 x) : wrap64 x = x := by
  unfold wrap64
  unfold i64 at h
  omega
def bytesOf : Value → ByteArray
  | .string b => b
  | _ => ⟨#[]⟩
set_option maxHeartbeats 2000000 in
set_option maxHeartbeats 2000000 in
set_option maxRecDepth 100000 in
/-- digits -/
theorem digits_calls {n : Int} (hn : i64 n) {w : World} : Calls Tryz.prog 5 #[.int .i64 n] w fun e w' => e = .returned (.string (num n)) ∧ Ext Nope w w' := by
  go_enter Tryz.func5, Tryz.ntmps5
  go_wp2_with fail
  go_loopw [0, 3] (fun x s wr => ∃ (nn : Int) (t : ByteArray), x = .int .i64 nn ∧ s = .string t ∧ DigAt n nn t ∧ i64 nn ∧ Ext Nope w wr) (fun x s _ => (intOf x).natAbs + (if (bytesOf s).data.toList = [] then 1 else 0))
  case atStart => exact ⟨n, ⟨#[]⟩, rfl, rfl, Or.inl ⟨rfl, rfl⟩, hn, Ext.refl _ _⟩
  case round =>
    obtain ⟨nn, t, rfl, rfl, hD, hi, hE⟩ := hrel
    rename World => wr
    have HD := toHid hD
    have HE := toHid hE
    clear hD hE
    have hts : t.size ≤ 21 := by
      have h1 := num_size (n := n) (by unfold i64 at hn; omega) (by unfold i64 at hn; omega)
      exact Nat.le_trans (DigAt.size HD.out) h1
    by_cases hgo : nn ≠ 0 ∨ t.data.toList = []
    · have s0 : nn = 0 → (t.toList == []) = true := fun h => by
        rw [ByteArray.toList_eq]
        rcases hgo with h' | h'
        · exact absurd h h'
        · rw [h']; rfl
      have d1 : (nn.tmod 10).natAbs = nn.natAbs % 10 := natAbs_mod nn
      have dv : (nn.tdiv 10).natAbs = nn.natAbs / 10 := natAbs_div nn
      obtain ⟨k, hk⟩ : ∃ k, nn.natAbs % 10 = k := ⟨_, rfl⟩
      have hk10 : k < 10 := by omega
      have hcv := conv_one wr k hk10
      obtain ⟨c, HC⟩ : ∃ c, Hid (UInt8.ofNat (48 + k) = c) := ⟨_, rfl⟩
      rw [HC.out] at hcv
      have hi64 : i64 (nn.tdiv 10) := by unfold i64 at hi ⊢; omega
      have HDV := toHid (show wrap64 (nn.tdiv 10) = nn.tdiv 10 ∧ DigAt n (nn.tdiv 10) ⟨#[c] ++ t.data⟩ ∧ i64 (nn.tdiv 10) from ⟨wrap64_in hi64, by rw [← HC.out, ← hk]; exact HD.out.step hgo, hi64⟩)
      have HME := toHid (show (nn.tdiv 10).natAbs + (if (#[c] ++ t.data).toList = [] then 1 else 0) < nn.natAbs + (if t.data.toList = [] then 1 else 0) by
        rw [if_neg (by simp), dv]
        rcases hgo with h | h
        · split <;> omega
        · rw [if_pos h]; omega)
      have s3 : IntKind.i64.wrap (48 + (k : Int)) = 48 + (k : Int) := IntWalk.i64_in _ (by omega)
      have s6 : wrap64 (nn.tdiv 10) = nn.tdiv 10 := HDV.out.1
      have s4 : IntKind.u8.wrap (48 + (k : Int)) = 48 + (k : Int) := by rw [show (48 : Int) + (k : Int) = ((48 + k : Nat) : Int) by omega]; exact wrap_u8 _ (by omega)
      generalize hd : nn.tmod 10 = d at *
      by_cases hd0 : d < 0
      · have h0 : ¬ nn = 0 := by rintro rfl; simp at hd; omega
        have hdk : -d = (k : Int) := by omega
        have s2 : IntKind.i64.wrap (k : Int) = (k : Int) := IntWalk.i64_in _ (by omega)
        have HDD := toHid hd
        clear s0 d1 dv hk hgo hi hi64
        go_wp2_with fail
        refine ⟨⟨nn.tdiv 10, ⟨#[c] ++ t.data⟩, congrArg (Value.int .i64) HDV.out.1, congrArg Value.string (append_data c t), HDV.out.2.1, HDV.out.2.2, HE.out.alloc _⟩, ?_⟩
        (try simp only [intOf, bytesOf, append_data, HDV.out.1]); exact HME.out
      · have hdk : d = (k : Int) := by omega
        subst hdk
        have HDD := toHid hd
        clear d1 dv hi hi64
        by_cases h0 : nn = 0
        · have s5 := s0 h0
          have hk0 : k = 0 := by rw [h0] at hk; simpa using hk.symm
          subst hk0
          subst h0
          rw [show (48 : Int) + ((0 : Nat) : Int) = 48 from rfl] at hcv s3 s4
          clear s0 hgo hk hd
          go_wp2_with fail
          refine ⟨⟨0, ⟨#[c] ++ t.data⟩, rfl, congrArg Value.string (append_data c t), HDV.out.2.1, HDV.out.2.2, HE.out.alloc _⟩, ?_⟩
          (try simp only [intOf, bytesOf, append_data, HDV.out.1]); exact HME.out
        · clear s0 hgo hk
          go_wp2_with fail
          refine ⟨⟨nn.tdiv 10, ⟨#[c] ++ t.data⟩, congrArg (Value.int .i64) HDV.out.1, congrArg Value.string (append_data c t), HDV.out.2.1, HDV.out.2.2, HE.out.alloc _⟩, ?_⟩
          (try simp only [intOf, bytesOf, append_data, HDV.out.1]); exact HME.out
    · have h0 : nn = 0 := by omega
      have hne : t.data.toList ≠ [] := fun h => hgo (Or.inr h)
      have s0 : (t.toList == []) = false := by rw [ByteArray.toList_eq, beq_eq_false_iff_ne]; exact hne
      subst h0
      have HL := toHid (HD.out.last hne)
      clear hgo hne
      by_cases hn0 : n < 0
      · go_wp2_with fail
        go_ret
        refine ⟨congrArg (fun z => Ending.returned (Value.string z)) (bytes_ext ?_), HE.out⟩
        rw [num_list, Lib.itoa, if_pos hn0, ← HL.out]
        simp [ByteArray.data_append]
      · go_wp2_with fail
        go_ret
        refine ⟨congrArg (fun z => Ending.returned (Value.string z)) (bytes_ext ?_), HE.out⟩
        rw [num_list, Lib.itoa, if_neg (by omega), show n.toNat = n.natAbs by omega, ← HL.out]
end Go.Proofs.YtajebdpalnpjdaaGreatDoor
namespace Go.Proofs.YtajebdpalnpjdaaGreatDoor
open Go.RowKit
attribute [local go_sem] alloc_drewN setCell_drewN

theorem parse_bad {w : World} (G : Glob w) (hg : 11 ≤ w.heap.size) {s : ByteArray} (h32 : (32 : UInt8) ∉ s.data.toList) (h10 : (10 : UInt8) ∉ s.data.toList) (hs : s.size ≤ 90000) (hv : ∀ n, Lib.atoiAll s.data.toList = .ok n → i64 n ∧ (num n ≠ s ∨ 9999999 < n.natAbs)) {ls : List ByteArray} (hl : ∀ l ∈ ls, (10 : UInt8) ∉ l.data.toList) (hz : (textB (joinB 32 [k_font, n_a, s] :: ls) ⟨#[]⟩).size ≤ 100000) :
    Calls Tryz.prog 6 #[.string (textB (joinB 32 [k_font, n_a, s] :: ls) ⟨#[]⟩)] w fun e w' => e = .returned (.tuple #[noFont, .int .i64 1, .int .i64 4]) ∧ Ext Nope w w' := by
  refine parse_stop (K := 0) (St := fun _ W => RB W (w.heap.size + 1) cells0 (.slice none 0 0)) G hg (fun l h => ?_) (by simp) hz (Nat.zero_le _) (fun _ => Or.inl rfl) (fun k W W' h e => h.ext0 e) (fun W e h => h) (fun k l W hk => absurd hk (Nat.not_lt_zero _)) (fun l W hk h e => ?_)
  · rcases List.mem_cons.1 h with rfl | h
    · intro h
      have e : (joinB 32 [k_font, n_a, s]).data.toList = [102, 111, 110, 116, 32, 97, 32] ++ s.data.toList := by rw [joinB_list]; simp [joinC]
      rw [e] at h
      rcases List.mem_append.1 h with h | h
      · revert h; decide
      · exact h10 h
    · exact hl l h
  · have hk : joinB 32 [k_font, n_a, s] = l := by simpa using hk
    subst hk
    exact (line_font_bad (G.ext0 e) (by omega) h rfl h32 hs hv).mono fun e w' ⟨h1, h2⟩ => ⟨h1, h2.mono (fun b z => by have z : b = w.heap.size + 1 := z; omega)⟩
/-- A version of more than seven digits -/
theorem long_bad {v : Int} (hi : i64 v) (hv : 9999999 < v.natAbs) : ∀ n, Lib.atoiAll (num v).data.toList = .ok n → i64 n ∧ (num n ≠ num v ∨ 9999999 < n.natAbs) := by
  intro n h
  rw [num_list, atoi_itoa (by unfold i64 at hi; omega) (by unfold i64 at hi; omega)] at h
  cases h
  exact ⟨hi, Or.inr hv⟩
/-- A zero in front -/
theorem zero_bad {v : Int} (hi : i64 v) : ∀ n, Lib.atoiAll (⟨#[48] ++ (num v).data⟩ : ByteArray).data.toList = .ok n → i64 n ∧ (num n ≠ ⟨#[48] ++ (num v).data⟩ ∨ 9999999 < n.natAbs) := by
  intro n h
  have e : (⟨#[48] ++ (num v).data⟩ : ByteArray).data.toList = 48 :: Lib.itoa v := by rw [← num_list]; simp
  rw [e] at h
  obtain ⟨rfl, h0⟩ := atoi_zero (by unfold i64 at hi; omega) (by unfold i64 at hi; omega) n h
  refine ⟨hi, Or.inl fun h => ?_⟩
  have h2 : (num n).data.toList = (⟨#[48] ++ (num n).data⟩ : ByteArray).data.toList := congrArg (fun b : ByteArray => b.data.toList) h
  rw [e, num_list] at h2
  exact itoa_zero_ne n h2
def lawC (X Y : Int) : List PtA := [⟨0, 0, true⟩, ⟨1, 1, true⟩, ⟨X, Y, true⟩]
/-- The law's text -/
theorem law_text (u A X Y : Int) : (⟨#[102, 111, 110, 116, 32, 97, 32]⟩ : ByteArray) ++ num u ++ ⟨#[10, 103, 108, 121, 112, 104, 32]⟩ ++ num A ++ ⟨#[10, 99, 111, 110, 116, 111, 117, 114, 32, 48, 44, 48, 32, 49, 44, 49, 32]⟩ ++ num X ++ ⟨#[44]⟩ ++ num Y ++ ⟨#[10]⟩ = textB (lawLines u A (lawC X Y)) ⟨#[]⟩ := by
  apply bytes_ext
  have h0 : (num 0).data.toList = [48] := by rw [num_list, Lib.itoa, if_neg (by decide), Lib.decDigits, dif_pos (by decide)]; rfl
  have h1 : (num 1).data.toList = [49] := by rw [num_list, Lib.itoa, if_neg (by decide), Lib.decDigits, dif_pos (by decide)]; rfl
  have hp : ∀ p : PtA, (ptCore p).data.toList = (num p.x).data.toList ++ 44 :: (num p.y).data.toList := fun p => rfl
  simp [textB, linesC, lawLines, joinB_list, joinC, lawC, ptText, hp, ByteArray.data_append, h0, h1]
theorem law_line (X Y : Int) : (joinB 32 (k_contour :: (lawC X Y).map ptText)).data.toList = [99, 111, 110, 116, 111, 117, 114, 32, 48, 44, 48, 32, 49, 44, 49, 32] ++ (num X).data.toList ++ 44 :: (num Y).data.toList := by
  have h0 : (num 0).data.toList = [48] := by rw [num_list, Lib.itoa, if_neg (by decide), Lib.decDigits, dif_pos (by decide)]; rfl
  have h1 : (num 1).data.toList = [49] := by rw [num_list, Lib.itoa, if_neg (by decide), Lib.decDigits, dif_pos (by decide)]; rfl
  have hp : ∀ p : PtA, (ptCore p).data.toList = (num p.x).data.toList ++ 44 :: (num p.y).data.toList := fun p => rfl
  simp [joinB_list, joinC, lawC, ptText, hp, h0, h1]
theorem law_line_size {X Y : Int} (hx : i64 X) (hy : i64 Y) : (joinB 32 (k_contour :: (lawC X Y).map ptText)).size ≤ 100 := by
  have hh : ∀ b : ByteArray, b.size = b.data.toList.length := fun b => rfl
  have t1 := num_size (n := X) (by unfold i64 at hx; omega) (by unfold i64 at hx; omega)
  have t2 := num_size (n := Y) (by unfold i64 at hy; omega) (by unfold i64 at hy; omega)
  rw [hh] at t1 t2
  rw [hh, law_line]
  simp only [List.length_append, List.length_cons, List.length_nil]
  omega
theorem law_line_not (X Y : Int) : (10 : UInt8) ∉ (joinB 32 (k_contour :: (lawC X Y).map ptText)).data.toList := by
  rw [law_line]
  intro h
  rcases List.mem_append.1 h with h | h
  · rcases List.mem_append.1 h with h | h
    · revert h; decide
    · exact num_not (by decide) (by decide) h
  · rcases List.mem_cons.1 h with h | h
    · revert h; decide
    · exact num_not (by decide) (by decide) h
theorem glyph_line_not (A : Int) : (10 : UInt8) ∉ (joinB 32 [k_glyph, num A]).data.toList := by
  intro h
  have e : (joinB 32 [k_glyph, num A]).data.toList = [103, 108, 121, 112, 104, 32] ++ (num A).data.toList := by rw [joinB_list]; simp [joinC]
  rw [e] at h
  rcases List.mem_append.1 h with h | h
  · revert h; decide
  · exact num_not (by decide) (by decide) h
theorem law_size {u A X Y : Int} (hu : i64 u) (hA : i64 A) (hX : i64 X) (hY : i64 Y) : (textB (lawLines u A (lawC X Y)) ⟨#[]⟩).size ≤ 1000 := by
  have hz1 := num_size (n := u) (by unfold i64 at hu; omega) (by unfold i64 at hu; omega)
  have hz2 := num_size (n := A) (by unfold i64 at hA; omega) (by unfold i64 at hA; omega)
  have hb1 : (joinB 32 [k_font, n_a, num u]).size = 7 + (num u).size := by
    have hh : ∀ b : ByteArray, b.size = b.data.toList.length := fun b => rfl
    rw [hh, hh, joinB_list]
    simp [joinC]
    omega
  have hb2 : (joinB 32 [k_glyph, num A]).size = 6 + (num A).size := by
    have hh : ∀ b : ByteArray, b.size = b.data.toList.length := fun b => rfl
    rw [hh, hh, joinB_list]
    simp [joinC]
    omega
  have hb3 := law_line_size hX hY
  rw [lawLines, textB_size, textB_size, textB_size, textB_nil, hb1, hb2]
  have : (⟨#[]⟩ : ByteArray).size = 0 := rfl
  omega
/-- The law's second text -/
theorem law_text2 (u : Int) : (⟨#[102, 111, 110, 116, 32, 97, 32, 48]⟩ : ByteArray) ++ num u ++ ⟨#[10]⟩ = textB [joinB 32 [k_font, n_a, ⟨#[48] ++ (num u).data⟩]] ⟨#[]⟩ := by
  apply bytes_ext
  simp [textB, linesC, joinB_list, joinC, ByteArray.data_append]
theorem zero_not (u : Int) {c : UInt8} (h1 : c ≠ 45) (h2 : c.toNat < 48 ∨ 57 < c.toNat) (h3 : c ≠ 48) : c ∉ (⟨#[48] ++ (num u).data⟩ : ByteArray).data.toList := by
  intro h
  have e : (⟨#[48] ++ (num u).data⟩ : ByteArray).data.toList = 48 :: (num u).data.toList := by simp
  rw [e] at h
  rcases List.mem_cons.1 h with h | h
  · exact h3 h
  · exact num_not h1 h2 h
theorem zero_size (u : Int) : (⟨#[48] ++ (num u).data⟩ : ByteArray).size = 1 + (num u).size := by
  have hh : ∀ b : ByteArray, b.size = b.data.toList.length := fun b => rfl
  rw [hh, hh]
  simp
  omega
theorem law_size2 {u : Int} (hu : i64 u) : (textB [joinB 32 [k_font, n_a, ⟨#[48] ++ (num u).data⟩]] ⟨#[]⟩).size ≤ 1000 := by
  have hz1 := num_size (n := u) (by unfold i64 at hu; omega) (by unfold i64 at hu; omega)
  have hh : ∀ b : ByteArray, b.size = b.data.toList.length := fun b => rfl
  rw [← law_text2]
  rw [hh] at hz1 ⊢
  simp only [ByteArray.data_append, Array.toList_append, List.length_append, List.length_cons, List.length_nil]
  omega
end Go.Proofs.YtajebdpalnpjdaaGreatDoor
