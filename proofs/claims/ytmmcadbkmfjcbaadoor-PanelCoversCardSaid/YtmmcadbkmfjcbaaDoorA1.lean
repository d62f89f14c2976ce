/-
  Numbers of 64 bits: rows of pixels in slices, and what the machine's operations on bits are in plain numbers.
-/
import Derived.Test.YtmmcadbkmfjcbaaDoorA0
import Derived.Test.YtmmcadbkmfjcbaaDoorProg
import Derived.Laws.Bits64b
namespace Go.Proofs.YtmmcadbkmfjcbaaDoor
open Go.RowKit

abbrev u64 (x : Nat) : Value := .int .u64 (x : Int)
def rowCells (xs : List Nat) : List Value := xs.map fun x => u64 x
theorem rowCells_append (a b : List Nat) : rowCells (a ++ b) = rowCells a ++ rowCells b := by simp [rowCells]
theorem rowCells_length (a : List Nat) : (rowCells a).length = a.length := by simp [rowCells]
theorem rowCells_one (x : Nat) : rowCells [x] = [u64 x] := rfl
theorem rowCells_at {xs : List Nat} {k x : Nat} (h : xs[k]? = some x) : (rowCells xs)[k]? = some (u64 x) := by simp [rowCells, h]
theorem rowCells_oneCell (a : List Nat) : ∀ u ∈ rowCells a, u.oneCell' = true := by
  intro u hu
  obtain ⟨x, _, rfl⟩ := List.mem_map.1 hu
  rfl
theorem info63 : (Tryd.prog.info? 63).map (fun i => (i.zero, i.size, i.bytes)) = some (some (.int .u64 0), 1, 8) := by kernel_rfl

/-- Every number is one of 64 bits. -/
def U64 (xs : List Nat) : Prop := ∀ x ∈ xs, x < 18446744073709551616
theorem U64.nil : U64 [] := fun _ h => by cases h
theorem U64.append {a b : List Nat} (ha : U64 a) (hb : U64 b) : U64 (a ++ b) := fun x hx => (List.mem_append.1 hx).elim (ha x) (hb x)
theorem U64.one {x : Nat} (h : x < 18446744073709551616) : U64 [x] := fun y hy => by simp at hy; omega
theorem U64.sub {a b : List Nat} (hb : U64 b) (h : ∀ x ∈ a, x ∈ b) : U64 a := fun x hx => hb x (h x hx)
theorem U64.at {xs : List Nat} (h : U64 xs) {k x : Nat} (hk : xs[k]? = some x) : x < 18446744073709551616 := h x (List.mem_of_getElem? hk)

/-- A slice of rows of the call's own. -/
def RowsAt (w : World) (base : Nat) (v : Value) (xs : List Nat) : Prop := w.ownsRow base 63 1 v xs.length (rowCells xs)
/-- A slice of rows that is read. -/
def Reads (w : World) (v : Value) (xs : List Nat) : Prop :=
  ∃ a cap, v = .slice a xs.length cap ∧ xs.length ≤ cap ∧ cap ≤ 9223372036854775807 ∧
    (0 < xs.length → ∃ b off, a = some ⟨b, off, none⟩ ∧ b < w.heap.size ∧ ∀ (k x : Nat), xs[k]? = some x → w.cell? ⟨b, off + k, none⟩ = some (u64 x))

theorem Reads.ext {w w' : World} {S : Nat → Prop} {v : Value} {xs : List Nat} (h : Reads w v xs) (e : Ext S w w') (hs : ∀ g, v.ownBlock = some g → ¬ S g) : Reads w' v xs := by
  obtain ⟨a, cap, hv, h1, h2, h3⟩ := h
  refine ⟨a, cap, hv, h1, h2, fun h0 => ?_⟩
  obtain ⟨b, off, ha, hb, hc⟩ := h3 h0
  refine ⟨b, off, ha, Nat.lt_of_lt_of_le hb e.size, fun k x hk => (World.cell?_of_block (w := w) (e.block b hb (hs b (by rw [hv, ha]; rfl)))).trans (hc k x hk)⟩
theorem Reads.ext0 {w w' : World} {v : Value} {xs : List Nat} (h : Reads w v xs) (e : Ext Nope w w') : Reads w' v xs := h.ext e fun _ _ z => z
theorem RowsAt.reads {w : World} {base : Nat} {v : Value} {xs : List Nat} (h : RowsAt w base v xs) : Reads w v xs := by
  obtain ⟨a, cap, hv, h1, h2, h3⟩ := own_gen h
  refine ⟨a, cap, hv, h1, h2, fun h0 => ?_⟩
  obtain ⟨g, rfl⟩ := h3 h0
  subst hv
  refine ⟨g, 0, rfl, (World.ownsRow.lt h g rfl).2, fun k x hk => ?_⟩
  rw [Nat.zero_add]
  exact own_cell h (rowCells_at hk)

theorem bits_andNot_u64 (a b : Nat) (ha : a < 18446744073709551616) (hb : b < 18446744073709551616) : bits .andNot .u64 (a : Int) (b : Int) = ((a ^^^ (a &&& b) : Nat) : Int) := by
  have hx : a ^^^ (a &&& b) < 2 ^ 64 := Nat.xor_lt_two_pow (by omega) (Nat.and_lt_two_pow _ (by omega))
  have h1 : (BitVec.ofInt 64 (a : Int)).toNat = a := by
    rw [BitVec.ofInt_natCast, BitVec.toNat_ofNat]; exact Nat.mod_eq_of_lt (by omega)
  have h2 : (BitVec.ofInt 64 (b : Int)).toNat = b := by
    rw [BitVec.ofInt_natCast, BitVec.toNat_ofNat]; exact Nat.mod_eq_of_lt (by omega)
  have h3 : ∀ x y : BitVec 64, x &&& ~~~y = x ^^^ (x &&& y) := fun x y => by
    apply BitVec.eq_of_getLsbD_eq
    intro i hi
    simp only [BitVec.getLsbD_and, BitVec.getLsbD_not, BitVec.getLsbD_xor, hi, decide_true, Bool.true_and]
    cases x.getLsbD i <;> cases y.getLsbD i <;> rfl
  show IntKind.u64.wrap ((BitVec.ofInt 64 (a : Int) &&& ~~~(BitVec.ofInt 64 (b : Int))).toNat : Int) = _
  rw [h3, BitVec.toNat_xor, BitVec.toNat_and, h1, h2, IntKind.wrap_u64]
  omega
theorem two_pow_cast (i : Nat) : ((2 : Int) ^ i) = ((2 ^ i : Nat) : Int) := by simp
theorem wrap_shl (m i : Nat) : IntKind.u64.wrap ((m : Int) * 2 ^ i) = ((m * 2 ^ i % 18446744073709551616 : Nat) : Int) := by
  rw [IntKind.wrap_u64, two_pow_cast, Int.natCast_emod, Int.natCast_mul]; rfl
theorem wrap_one (i : Nat) (h : i < 64) : IntKind.u64.wrap (2 ^ i) = ((2 ^ i : Nat) : Int) := by
  have : (2 : Nat) ^ i < 18446744073709551616 := Nat.pow_lt_pow_right (a := 2) (n := 64) (by omega) h
  rw [IntKind.wrap_u64, two_pow_cast]
  generalize (2 : Nat) ^ i = p at *
  omega
theorem shr_cast (x i : Nat) : ((x : Int) / 2 ^ i) = ((x / 2 ^ i : Nat) : Int) := by rw [two_pow_cast, Int.natCast_ediv]
theorem pow_lt (i : Nat) (h : i < 64) : (2 : Nat) ^ i < 18446744073709551616 := Nat.pow_lt_pow_right (a := 2) (n := 64) (by omega) h

/-- A row with a pixel. -/
def withB (x i : Nat) (b : Bool) : Nat := (x ^^^ (x &&& 2 ^ i)) ||| (if b then 2 ^ i else 0)
theorem withB_bit (x i j : Nat) (b : Bool) : (withB x i b).testBit j = if j = i then b else x.testBit j := by
  unfold withB
  cases b
  · simp only [Bool.false_eq_true, if_false, Nat.or_zero, Nat.testBit_xor, Nat.testBit_and, Nat.testBit_two_pow]
    by_cases h : j = i
    · subst h; simp
    · have : ¬ i = j := fun e => h e.symm
      simp [h, this]
  · simp only [if_true, Nat.testBit_or, Nat.testBit_xor, Nat.testBit_and, Nat.testBit_two_pow]
    by_cases h : j = i
    · subst h; simp
    · have : ¬ i = j := fun e => h e.symm
      simp [h, this]
theorem withB_lt {x i : Nat} {b : Bool} (h : x < 18446744073709551616) (hi : i < 64) : withB x i b < 18446744073709551616 := by
  have h1 := pow_lt i hi
  have : withB x i b < 2 ^ 64 := by
    unfold withB
    refine Nat.or_lt_two_pow (Nat.xor_lt_two_pow (by omega) (Nat.and_lt_two_pow _ (by omega))) ?_
    split
    · omega
    · omega
  omega
theorem maskN (n : Nat) (h1 : 1 ≤ n) (h2 : n ≤ 64) : 18446744073709551615 / 2 ^ (64 - n) = 2 ^ n - 1 := by
  have : ∀ k : Fin 65, 1 ≤ k.val → 18446744073709551615 / 2 ^ (64 - k.val) = 2 ^ k.val - 1 := by decide
  exact this ⟨n, by omega⟩ h1
theorem bit_and_one (y : Nat) : (y &&& 1) = y % 2 := by
  exact Nat.and_two_pow_sub_one_eq_mod y 1

theorem ret_u64 {a b : Int} (h : a = b) : Ending.returned (.int .u64 a) = .returned (.int .u64 b) := by rw [h]
theorem ret_bool {a b : Bool} (h : a = b) : Ending.returned (.bool a) = .returned (.bool b) := by rw [h]

/-- panel.mask -/
theorem mask_calls (n : Nat) (w : World) (h1 : 1 ≤ n) (h2 : n ≤ 64) : Calls Tryd.prog 46 #[.int .i64 n] w fun e w' => e = .returned (u64 (2 ^ n - 1)) ∧ w = w' := by
  go_enter Tryd.func46, Tryd.ntmps46
  go_wp2
  go_ret
  refine ⟨ret_u64 ?_, rfl⟩
  rw [← maskN n h1 h2, Int.natCast_ediv, two_pow_cast]; rfl
/-- abugidaref33.bit -/
theorem bit_calls (x i : Nat) (w : World) (h1 : x < 18446744073709551616) (h2 : i < 64) : Calls Tryd.prog 48 #[u64 x, .int .i64 i] w fun e w' => e = .returned (.bool (x.testBit i)) ∧ w = w' := by
  go_enter Tryd.func48, Tryd.ntmps48
  go_wp2
  go_ret
  refine ⟨ret_bool ?_, rfl⟩
  have h3 : x / 2 ^ i < 18446744073709551616 := Nat.lt_of_le_of_lt (Nat.div_le_self _ _) h1
  rw [shr_cast, show (1 : Int) = ((1 : Nat) : Int) from rfl, bits_and_u64_nat _ _ h3 (by omega), bit_and_one, Nat.testBit_eq_decide_div_mod_eq]
  generalize x / 2 ^ i = y at *
  rw [Bool.eq_iff_iff]
  simp
  omega
set_option maxHeartbeats 400000 in
/-- abugidaref33.with -/
theorem with_calls (x i : Nat) (b : Bool) (w : World) (h1 : x < 18446744073709551616) (h2 : i < 64) : Calls Tryd.prog 47 #[u64 x, .int .i64 i, .bool b] w fun e w' => e = .returned (u64 (withB x i b)) ∧ w = w' := by
  have hp := pow_lt i h2
  have ha : bits .andNot .u64 (x : Int) ((2 ^ i : Nat) : Int) = ((x ^^^ (x &&& 2 ^ i) : Nat) : Int) := bits_andNot_u64 _ _ h1 hp
  have hl : x ^^^ (x &&& 2 ^ i) < 18446744073709551616 := by
    have : x ^^^ (x &&& 2 ^ i) < 2 ^ 64 := Nat.xor_lt_two_pow (by omega) (Nat.and_lt_two_pow _ (by omega))
    omega
  have hw := wrap_one i h2
  have HA := toHid ha
  have HW := toHid hw
  clear ha hw
  go_enter Tryd.func47, Tryd.ntmps47
  cases b
  · go_wp2
    go_ret
    refine ⟨ret_u64 ?_, rfl⟩
    rw [HW.out, HA.out]
    simp [withB]
  · go_wp2
    go_ret
    refine ⟨ret_u64 ?_, rfl⟩
    rw [HW.out, HA.out, bits_or_u64_nat _ _ hl hp]
    simp [withB]

end Go.Proofs.YtmmcadbkmfjcbaaDoor
