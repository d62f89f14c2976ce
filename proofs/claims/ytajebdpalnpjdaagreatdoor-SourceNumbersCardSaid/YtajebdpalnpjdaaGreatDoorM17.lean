/-
  The law's 'lines': a byte 10 for each semicolon.
  The reference's Same of two fonts that are nothing.
  The reference's Same of two fonts that are nothing; the law's 'fails'.
-/
import Derived.Test.YtajebdpalnpjdaaGreatDoorM02
import Derived.Test.YtajebdpalnpjdaaGreatDoorM00
import Derived.Deep.DeepCutAuto
namespace Go.Proofs.YtajebdpalnpjdaaGreatDoor
open Go.RowKit
attribute [local go_sem] alloc_drewN setCell_drewN

def semi1 (c : UInt8) : UInt8 := if c = 59 then 10 else c
def semi (s : ByteArray) : ByteArray := ⟨s.data.map semi1⟩
/-- What stands in the bytes after some rounds. -/
def LB (w : World) (nb : Nat) (s : ByteArray) (k : Nat) : Prop := ∃ (cs : Array Value) (M : Nat), w.heap[nb]? = some (.cells cs 5 (M, M + 1)) ∧ s.size ≤ M ∧ ∀ (j : Nat) (hj : j < s.data.size), cs[j]? = some (.int .u8 ((if j < k then semi1 s.data[j] else s.data[j]).toNat : Int))
theorem LB.same {w : World} {nb : Nat} {s : ByteArray} {k : Nat} (h : LB w nb s k) (hk : k < s.data.size) (hc : s.data[k] ≠ 59) : LB w nb s (k + 1) := by
  obtain ⟨cs, M, h1, h2, h3⟩ := h
  refine ⟨cs, M, h1, h2, fun j hj => ?_⟩
  rw [h3 j hj]
  by_cases hjk : j = k
  · subst hjk
    rw [if_neg (Nat.lt_irrefl _), if_pos (Nat.lt_succ_self _), semi1, if_neg hc]
  · by_cases hlt : j < k
    · rw [if_pos hlt, if_pos (by omega)]
    · rw [if_neg hlt, if_neg (by omega)]
theorem LB.turn {w : World} {nb : Nat} {s : ByteArray} {k : Nat} (h : LB w nb s k) (hk : k < s.data.size) (hc : s.data[k] = 59) : LB (w.setCell ⟨nb, k, none⟩ (.int .u8 10)) nb s (k + 1) := by
  obtain ⟨cs, M, h1, h2, h3⟩ := h
  refine ⟨cs.setIfInBounds k (.int .u8 10), M, heap_setCell_eq w nb k _ _ _ _ h1, h2, fun j hj => ?_⟩
  by_cases hjk : j = k
  · subst hjk
    have h0 : j < cs.size := (Array.getElem?_eq_some_iff.1 (h3 j hj)).1
    rw [if_pos (Nat.lt_succ_self _), semi1, if_pos hc, Array.getElem?_setIfInBounds_self_of_lt h0]
    rfl
  · rw [Array.getElem?_setIfInBounds_ne (fun z => hjk z.symm), h3 j hj]
    by_cases hlt : j < k
    · rw [if_pos hlt, if_pos (by omega)]
    · rw [if_neg hlt, if_neg (by omega)]
theorem LB.at {w : World} {nb : Nat} {s : ByteArray} {k : Nat} (h : LB w nb s k) (hk : k < s.data.size) : w.cell? ⟨nb, k, none⟩ = some (.int .u8 (s.data[k].toNat : Int)) ∧ w.frozen? ⟨nb, k, none⟩ = false := by
  obtain ⟨cs, M, h1, h2, h3⟩ := h
  constructor
  · rw [show (⟨nb, k, none⟩ : Addr) = at_ nb k from rfl, cell_of_blk h1, h3 k hk, if_neg (Nat.lt_irrefl _)]
  · have h4 : s.data.size ≤ M := h2
    simp only [World.frozen?, h1]
    simp
    omega
theorem LB.ends {w : World} {nb : Nat} {s : ByteArray} {cap : Nat} (h : LB w nb s s.size) : (convert 57 9 (.slice (some ⟨nb, 0, none⟩) s.size cap)).run Tryz.prog w = .ok (.string (semi s)) w := by
  obtain ⟨cs, M, h1, h2, h3⟩ := h
  have hl : (semi s).data.toList.length = s.size := by simp [semi]
  have := run_convert_bytes_back (P := Tryz.prog) w 57 9 5 ⟨nb, 0, none⟩ cap (semi s).data.toList Tryz.underlying57 Tryz.underlying5 Tryz.underlying9 fun j hj => by
    have hj' : j < s.data.size := by rw [hl] at hj; exact hj
    have hadd : Addr.add ⟨nb, 0, none⟩ j = at_ nb j := by unfold Addr.add; split <;> simp_all
    rw [hadd, cell_of_blk h1, h3 j hj', if_pos (show j < s.size from hj')]
    simp [semi]
  rw [hl] at this
  exact this
set_option maxRecDepth 100000 in
set_option maxHeartbeats 2000000 in
/-- lines -/
theorem lines_calls {w : World} (s : ByteArray) (hs : s.size ≤ 100000) : Calls Tryz.prog 7 #[.string s] w fun e w' => e = .returned (.string (semi s)) ∧ Ext Nope w w' := by
  have hcv := run_bytes_of_string (P := Tryz.prog) w 9 57 5 s Tryz.underlying9 Tryz.underlying57 Tryz.underlying5
  have hrow : ∀ cap (j : Nat) (hj : j < s.data.size), (bytesRow s cap)[j]? = some (.int .u8 (s.data[j].toNat : Int)) := fun cap j hj => bytesRow_at s cap j hj
  generalize grownCap w s.size 0 5 = cap at hcv
  have h0 : LB (w.drew.alloc (.cells (bytesRow s cap) 5 ((bytesRow s cap).size, (bytesRow s cap).size + 1))) w.heap.size s 0 := by
    refine ⟨bytesRow s cap, _, heap_alloc_new w.drew _, ?_, fun j hj => ?_⟩
    · have h1 : (bytesRow s cap).size = s.data.size + (cap - s.size) := by simp [bytesRow]
      have h2 : s.data.size = s.size := rfl
      omega
    · rw [if_neg (Nat.not_lt_zero _)]; exact hrow cap j hj
  have e1 : Ext Nope w (w.drew.alloc (.cells (bytesRow s cap) 5 ((bytesRow s cap).size, (bytesRow s cap).size + 1))) := (Ext.refl _ _).drew.alloc _
  generalize w.drew.alloc _ = w1 at *
  have H1 := toHid (show _ ∧ _ from ⟨h0, e1⟩)
  obtain ⟨nb, HB⟩ : ∃ nb, Hid (w.heap.size = nb) := ⟨_, rfl⟩
  rw [HB.out] at hcv H1
  obtain ⟨N, HN⟩ : ∃ N, Hid (s.size = N) := ⟨_, rfl⟩
  have HL := toHid (fun (W : World) => @LB.ends W nb s cap)
  rw [HN.out] at hcv hs HL
  clear h0 e1 hrow
  go_enter Tryz.func7, Tryz.ntmps7
  go_wp2_with fail
  go_loopw [4] (fun i wr => ∃ k : Nat, i = .int .i64 k ∧ k ≤ N ∧ LB wr nb s k ∧ Ext Nope w wr) (fun i _ => N - (intOf i).toNat)
  case atStart => exact ⟨0, rfl, Nat.zero_le _, H1.out⟩
  case round =>
    obtain ⟨k, rfl, hk, hL, hE⟩ := hrel
    rename World => wr
    by_cases hkn : k < N
    · have hks : k < s.data.size := by rw [← HN.out] at hkn; exact hkn
      have s1 : (0 : Int) ≤ (k : Int) := by omega
      have s2 : (k : Int) < (N : Int) := by omega
      obtain ⟨c0, f0⟩ := hL.at hks
      have hc64 := (s.data[k]).toNat_lt
      have HW := toHid (show _ ∧ _ from ⟨hL, hE⟩)
      clear hL hE
      by_cases hc : s.data[k] = 59
      · have HC := toHid hc
        have hcn : ((s.data[k].toNat : Nat) : Int) = 59 := by rw [hc]; rfl
        rw [hcn] at c0
        clear hc hcn
        go_wp2_with fail
        go_roundw
        case rel => exact ⟨k + 1, by go_num, by omega, HW.out.1.turn hks HC.out, Ext.setCell HW.out.2 nb k (fun z => absurd z (by have := HB.out; omega)) _⟩
        case measure => simp [intOf]; omega
      · have HC := toHid hc
        have hcn : ¬ ((s.data[k].toNat : Nat) : Int) = 59 := fun h => hc (UInt8.toNat_inj.1 (by rw [show (59 : UInt8).toNat = 59 from rfl]; omega))
        clear hc
        generalize ((s.data[k].toNat : Nat) : Int) = c at *
        go_wp2_with fail
        go_roundw
        case rel => exact ⟨k + 1, by go_num, by omega, HW.out.1.same hks HC.out, HW.out.2⟩
        case measure => simp [intOf]; omega
    · have hkk : k = N := by omega
      subst hkk
      have hcb := HL.out wr hL
      have HW := toHid hE
      clear hE hL
      go_wp2_with fail
      go_ret
      exact ⟨rfl, HW.out⟩
end Go.Proofs.YtajebdpalnpjdaaGreatDoor
namespace Go.Proofs.YtajebdpalnpjdaaGreatDoor
open Go.RowKit
attribute [local go_sem] alloc_drewN setCell_drewN

def zeros (n : Nat) : ByteArray := ⟨Array.replicate n 0⟩
theorem zeros_add (a b : Nat) : zeros a ++ zeros b = zeros (a + b) := by
  apply ByteArray.ext
  rw [ByteArray.data_append]
  simp [zeros]
theorem zeros_size (n : Nat) : (zeros n).size = n := by
  show (Array.replicate n (0 : UInt8)).size = n
  simp
theorem conv_zero (w : World) (cs : Array Value) (b : Nat) (h : w.heap[b]? = some (.cells #[.int .u8 0] 5 (0, 0))) : (convert 57 9 (.slice (some ⟨b, 0, none⟩) 1 1)).run Tryz.prog w = .ok (.string (zeros 1)) w := by
  refine run_convert_bytes_back (P := Tryz.prog) _ 57 9 5 ⟨b, 0, none⟩ 1 [0] Tryz.underlying57 Tryz.underlying5 Tryz.underlying9 fun j hj => ?_
  have hj0 : j = 0 := by simpa using hj
  subst hj0
  rw [show (Addr.add ⟨b, 0, none⟩ 0) = at_ b 0 from rfl, cell_of_blk h]
  rfl
set_option maxHeartbeats 1000000 in
/-- code -/
theorem code_zero (w : World) : Calls Tryz.prog 264 #[.int .i64 0] w fun e w' => e = .returned (.int .u64 0) ∧ w = w' := by
  go_enter Tryz.func264, Tryz.ntmps264
  go_wp2_with fail
  go_ret
  exact ⟨rfl, rfl⟩
set_option maxHeartbeats 1000000 in
/-- Int -/
theorem int_zero (w : World) : Calls Tryz.prog 186 #[.int .i64 0] w fun e w' => e = .returned (.string (zeros 1)) ∧ Ext Nope w w' := by
  have hcv := conv_zero (w.alloc (.cells #[.int .u8 0] 5)) #[] w.heap.size (heap_alloc_new w _)
  have he : (⟨#[]⟩ : ByteArray) ++ zeros 1 = zeros 1 := by
    apply ByteArray.ext
    rw [ByteArray.data_append]
    simp
  have hs := zeros_size 1
  generalize zeros 1 = z at *
  go_enter Tryz.func186, Tryz.ntmps186
  go_wp2_with fail
  refine (code_zero _).mono ?_
  rintro e w2 ⟨rfl, rfl⟩
  go_wp2_with fail
  go_loopw [3, 4] (fun c s wr => c = .int .u64 0 ∧ s = .string ⟨#[]⟩ ∧ wr = w) (fun _ _ _ => 0)
  case atStart => exact ⟨rfl, rfl, rfl⟩
  case round =>
    obtain ⟨rfl, rfl, hw⟩ := hrel
    subst hw
    go_wp2_with fail
    go_ret
    exact ⟨congrArg (fun z => Ending.returned (Value.string z)) he, (Ext.refl _ _).alloc _⟩
set_option maxHeartbeats 1000000 in
/-- Text -/
theorem text_zero (w : World) : Calls Tryz.prog 113 #[.string ⟨#[]⟩] w fun e w' => e = .returned (.string (zeros 1)) ∧ Ext Nope w w' := by
  have he : zeros 1 ++ (⟨#[]⟩ : ByteArray) = zeros 1 := by
    apply ByteArray.ext
    rw [ByteArray.data_append]
    simp
  have hs := zeros_size 1
  have HI := toHid (int_zero w)
  generalize zeros 1 = z at *
  go_enter Tryz.func113, Tryz.ntmps113
  go_wp2_with fail
  refine HI.out.mono ?_
  rintro e w2 ⟨rfl, e2⟩
  go_wp2_with fail
  go_ret
  exact ⟨rfl, e2⟩
set_option maxHeartbeats 1000000 in
/-- ints -/
theorem ints_zero {w : World} {b n : Nat} (hn : n ≤ 10) (h : w.heap[b]? = some (.cells (Array.replicate n (.int .i64 0)) 3 (0, 0))) : Calls Tryz.prog 114 #[.slice (some ⟨b, 0, none⟩) n n] w fun e w' => e = .returned (.string (zeros n)) ∧ Ext Nope w w' := by
  have HB := toHid h
  clear h
  go_enter Tryz.func114, Tryz.ntmps114
  go_wp2_with fail
  go_loopw [3, 4] (fun s i wr => ∃ k : Nat, i = .int .i64 k ∧ s = .string (zeros k) ∧ k ≤ n ∧ Ext Nope w wr) (fun _ i _ => n - (intOf i).toNat)
  case atStart => exact ⟨0, rfl, rfl, Nat.zero_le _, Ext.refl _ _⟩
  case round =>
    obtain ⟨k, rfl, rfl, hk, hE⟩ := hrel
    rename World => wr
    have hz := (hE.block _ (lt_of_heap HB.out) (fun z => z)).trans HB.out
    have HW := toHid hE
    clear hE
    by_cases hkn : k < n
    · have s1 : (0 : Int) ≤ (k : Int) := by omega
      have s2 : (k : Int) < (n : Int) := by omega
      have c0 : wr.cell? ⟨b, k, none⟩ = some (.int .i64 0) := by
        rw [show (⟨b, k, none⟩ : Addr) = at_ b k from rfl, cell_of_blk hz, Array.getElem?_replicate, if_pos hkn]
      have he := zeros_add k 1
      have h1 := zeros_size k
      have h2 := zeros_size 1
      have HI := toHid (int_zero wr)
      generalize zeros 1 = z at *
      clear hz
      go_wp2_with fail
      refine HI.out.mono ?_
      rintro e w2 ⟨rfl, e2⟩
      go_wp2_with fail
      refine ⟨⟨k + 1, congrArg (Value.int .i64) (by omega), rfl, by omega, ext0 HW.out e2⟩, ?_⟩
      simp only [intOf]
      omega
    · have hkk : k = n := by omega
      subst hkk
      go_wp2_with fail
      go_ret
      exact ⟨rfl, HW.out⟩
end Go.Proofs.YtajebdpalnpjdaaGreatDoor
namespace Go.Proofs.YtajebdpalnpjdaaGreatDoor
open Go.RowKit
attribute [local go_sem] alloc_drewN setCell_drewN

abbrev coreCells : Array Value := #[.string ⟨#[]⟩, .int .i64 0, .slice none 0 0, .slice none 0 0, .int .i64 0, .slice none 0 0, .slice none 0 0, .slice none 0 0, .string ⟨#[]⟩]
theorem core0_cells {w : World} {b : Nat} (h : w.heap[b]? = some (.cells coreCells 32 (0, 0))) : w.cell? ⟨b, 0, none⟩ = some (.string ⟨#[]⟩) ∧ w.cell? ⟨b, 1, none⟩ = some (.int .i64 0) ∧ w.cell? ⟨b, 2, none⟩ = some (.slice none 0 0) ∧ w.cell? ⟨b, 3, none⟩ = some (.slice none 0 0) ∧ w.cell? ⟨b, 4, none⟩ = some (.int .i64 0) ∧ w.cell? ⟨b, 5, none⟩ = some (.slice none 0 0) ∧ w.cell? ⟨b, 6, none⟩ = some (.slice none 0 0) ∧ w.cell? ⟨b, 7, none⟩ = some (.slice none 0 0) ∧ w.cell? ⟨b, 8, none⟩ = some (.string ⟨#[]⟩) := by
  refine ⟨?_, ?_, ?_, ?_, ?_, ?_, ?_, ?_, ?_⟩ <;> (rw [show ∀ j, (⟨b, j, none⟩ : Addr) = at_ b j from fun _ => rfl, cell_of_blk h]; rfl)
theorem heap_alloc_drew (w : World) (o : Obj) (k : Nat) (h : k = w.heap.size) : ((w.alloc o).drew).heap[k]? = some o := heap_alloc_at w o k h
theorem heap_alloc_drew2 (w : World) (o : Obj) (k : Nat) (h : k = w.heap.size) : ((w.drew).alloc o).heap[k]? = some o := heap_alloc_at w o k h
set_option maxRecDepth 100000 in
set_option maxHeartbeats 4000000 in
/-- Encode of nothing -/
theorem encode_zero (w : World) : Calls Tryz.prog 48 #[.agg coreCells] w fun e w' => e = .returned (.string (zeros 9)) ∧ Ext Nope w w' := by
  have HS := toHid (fun n => zeros_size n)
  have HA := toHid (fun a b => zeros_add a b)
  have HN := toHid (fun (W : World) (o : Obj) => heap_alloc_new W o)
  go_enter Tryz.func48, Tryz.ntmps48
  go_upto_region 1 with fail
  have e1 : Ext Nope w (w.alloc (.cells coreCells 32)) := (Ext.refl Nope w).alloc _
  have hz1 := heap_alloc_new w (.cells coreCells 32)
  obtain ⟨X, HX⟩ : ∃ X, Hid (w.heap.size = X) := ⟨_, rfl⟩
  rw [HX.out] at hz1 ⊢
  generalize w.alloc (.cells coreCells 32) = w1 at *
  have H1 := toHid (show _ ∧ _ from ⟨e1, hz1⟩)
  have SK : Hid (∀ w', Ext Nope w1 w' → w'.cell? ⟨X, 0, none⟩ = some (.string ⟨#[]⟩) ∧ w'.cell? ⟨X, 1, none⟩ = some (.int .i64 0) ∧ w'.cell? ⟨X, 2, none⟩ = some (.slice none 0 0)) := fun w' e => by
    obtain ⟨z0, z1, z2, _⟩ := core0_cells ((e.block _ (lt_of_heap H1.out.2) (fun z => z)).trans H1.out.2)
    exact ⟨z0, z1, z2⟩
  clear e1 hz1 HN
  have z1 := zeros_size 1
  have z2 := zeros_size 2
  have a3 : zeros 1 ++ zeros 2 = zeros 3 := zeros_add 1 2
  go_cut [3] (fun s wx => s = .string (zeros 3) ∧ Ext Nope w1 wx)
  case first =>
    go_region_held3 (fun w' => w'.cell? ⟨X, 0, none⟩ = some (.string ⟨#[]⟩) ∧ w'.cell? ⟨X, 1, none⟩ = some (.int .i64 0) ∧ w'.cell? ⟨X, 2, none⟩ = some (.slice none 0 0))
      ((refine SK.out _ ?_; (repeat (first | exact Ext.refl _ _ | refine Ext.drew ?_ | refine Ext.alloc ?_ _ | refine ext0 ?_ e5 | refine ext0 ?_ e6))))
      (first
        | (go_at_call 113; refine (text_zero _).mono ?_; rintro e w5 ⟨rfl, e5⟩)
        | (go_at_call 114; refine (ints_zero (n := 2) (Nat.le_of_ble_eq_true rfl) ?_).mono ?_; (focus ((first | (refine heap_alloc_at _ _ _ ?_; rfl) | (refine heap_alloc_drew _ _ _ ?_; rfl) | (refine (e5.block _ ?_ (fun z => z)).trans ?_; (focus ((first | (simp; done) | (simp; omega)); done)); (first | (refine heap_alloc_at _ _ _ ?_; rfl) | (refine heap_alloc_drew _ _ _ ?_; rfl) | (refine heap_alloc_drew2 _ _ _ ?_; rfl)))); done)); rintro e w6 ⟨rfl, e6⟩))
    all_goals
      go_wp2_with fail
      go_meet
      exact ⟨rfl, by repeat (first | exact Ext.refl _ _ | refine Ext.drew ?_ | refine Ext.alloc ?_ _ | refine ext0 ?_ e5 | refine ext0 ?_ e6)⟩
  case rest =>
    obtain ⟨rfl, e7⟩ := hcut
    rename World => wc
    have H7 := toHid (show _ ∧ _ from ⟨(ext0 H1.out.1 e7 : Ext Nope w wc), (e7.block _ (lt_of_heap H1.out.2) (fun z => z)).trans H1.out.2⟩)
    clear e7 a3 z2
    clear SK
    obtain ⟨c0, c1, c2, c3, c4, c5, c6, c7, c8⟩ := core0_cells H7.out.2
    go_wp2_with fail
    go_loopw [3, 4] (fun s i wr => s = .string (zeros 3) ∧ i = .int .i64 0 ∧ wr = wc) (fun _ _ _ => 0)
    case atStart => exact ⟨rfl, rfl, rfl⟩
    case round =>
      obtain ⟨rfl, rfl, hw⟩ := hrel
      have hw := hw.symm
      subst hw
      go_wp2_with fail
      clear c0 c1 c2 c3 c4 c5 c6 c7 c8
      have zn := zeros_size 1
      have zm := zeros_size 3
      refine (ints_zero (n := 1) (by omega) (heap_alloc_new wc _)).mono ?_
      rintro e w8 ⟨rfl, e8⟩
      have E8 : Ext Nope wc w8 := ext0 ((Ext.refl _ _).alloc _) e8
      have H8 := toHid (show _ ∧ _ from ⟨(ext0 H7.out.1 E8 : Ext Nope w w8), (E8.block _ (lt_of_heap H7.out.2) (fun z => z)).trans H7.out.2⟩)
      have a8 : zeros 3 ++ zeros 1 = zeros 4 := zeros_add 3 1
      clear e8 E8
      obtain ⟨c0, c1, c2, c3, c4, c5, c6, c7, c8⟩ := core0_cells H8.out.2
      go_wp2_with fail
      go_loopw [3, 7] (fun s i wr => s = .string (zeros 4) ∧ i = .int .i64 0 ∧ wr = w8) (fun _ _ _ => 0)
      case atStart => exact ⟨rfl, rfl, rfl⟩
      case round =>
        obtain ⟨rfl, rfl, hw⟩ := hrel
        have hw := hw.symm
        subst hw
        go_wp2_with fail
        clear c0 c1 c2 c3 c4 c5 c6 c7 c8
        have zn := zeros_size 2
        have zm := zeros_size 4
        refine (ints_zero (n := 2) (by omega) (heap_alloc_new w8 _)).mono ?_
        rintro e w9 ⟨rfl, e9⟩
        have E9 : Ext Nope w8 w9 := ext0 ((Ext.refl _ _).alloc _) e9
        have H9 := toHid (show _ ∧ _ from ⟨(ext0 H8.out.1 E9 : Ext Nope w w9), (E9.block _ (lt_of_heap H8.out.2) (fun z => z)).trans H8.out.2⟩)
        have a9 : zeros 4 ++ zeros 2 = zeros 6 := zeros_add 4 2
        clear e9 E9
        obtain ⟨c0, c1, c2, c3, c4, c5, c6, c7, c8⟩ := core0_cells H9.out.2
        go_wp2_with fail
        go_loopw [3, 10] (fun s i wr => s = .string (zeros 6) ∧ i = .int .i64 0 ∧ wr = w9) (fun _ _ _ => 0)
        case atStart => exact ⟨rfl, rfl, rfl⟩
        case round =>
          obtain ⟨rfl, rfl, hw⟩ := hrel
          have hw := hw.symm
          subst hw
          go_wp2_with fail
          clear c0 c1 c2 c3 c4 c5 c6 c7 c8
          have zn := zeros_size 1
          have zm := zeros_size 6
          refine (ints_zero (n := 1) (by omega) (heap_alloc_new w9 _)).mono ?_
          rintro e w10 ⟨rfl, e10⟩
          have E10 : Ext Nope w9 w10 := ext0 ((Ext.refl _ _).alloc _) e10
          have H10 := toHid (show _ ∧ _ from ⟨(ext0 H9.out.1 E10 : Ext Nope w w10), (E10.block _ (lt_of_heap H9.out.2) (fun z => z)).trans H9.out.2⟩)
          have a10 : zeros 6 ++ zeros 1 = zeros 7 := zeros_add 6 1
          clear e10 E10
          obtain ⟨c0, c1, c2, c3, c4, c5, c6, c7, c8⟩ := core0_cells H10.out.2
          go_wp2_with fail
          go_loopw [3, 13] (fun s i wr => s = .string (zeros 7) ∧ i = .int .i64 0 ∧ wr = w10) (fun _ _ _ => 0)
          case atStart => exact ⟨rfl, rfl, rfl⟩
          case round =>
            obtain ⟨rfl, rfl, hw⟩ := hrel
            have hw := hw.symm
            subst hw
            go_wp2_with fail
            clear c0 c1 c2 c3 c4 c5 c6 c7 c8
            have zn := zeros_size 1
            have zm := zeros_size 7
            refine (ints_zero (n := 1) (by omega) (heap_alloc_new w10 _)).mono ?_
            rintro e w11 ⟨rfl, e11⟩
            have E11 : Ext Nope w10 w11 := ext0 ((Ext.refl _ _).alloc _) e11
            have H11 := toHid (show _ ∧ _ from ⟨(ext0 H10.out.1 E11 : Ext Nope w w11), (E11.block _ (lt_of_heap H10.out.2) (fun z => z)).trans H10.out.2⟩)
            have a11 : zeros 7 ++ zeros 1 = zeros 8 := zeros_add 7 1
            clear e11 E11
            obtain ⟨c0, c1, c2, c3, c4, c5, c6, c7, c8⟩ := core0_cells H11.out.2
            go_wp2_with fail
            go_loopw [3, 14] (fun s i wr => s = .string (zeros 8) ∧ i = .int .i64 0 ∧ wr = w11) (fun _ _ _ => 0)
            case atStart => exact ⟨rfl, rfl, rfl⟩
            case round =>
              obtain ⟨rfl, rfl, hw⟩ := hrel
              have hw := hw.symm
              subst hw
              go_wp2_with fail
              clear c0 c1 c2 c3 c4 c5 c6 c7 c8
              have zm := zeros_size 8
              refine (text_zero _).mono ?_
              rintro e w12 ⟨rfl, e12⟩
              have a12 : zeros 8 ++ zeros 1 = zeros 9 := zeros_add 8 1
              go_wp2_with fail
              go_ret
              exact ⟨rfl, ext0 H11.out.1 e12⟩
end Go.Proofs.YtajebdpalnpjdaaGreatDoor
