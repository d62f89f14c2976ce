/-
  Steps of MemoryBudget's round, told of worlds: the memory and the law's own map of sizes.
-/
import Derived.Test.YtkloaadaicklfaaB0
import Derived.Test.YtkloaadaicklfaaI2
namespace Go.Proofs.Ytkloaadaicklfaa
open Go.RowKit

theorem zero3 (w : World) : (zeroValue 3).run Try.prog w = .ok (.int .i64 0) w := by kernel_rfl

theorem MapAs.ext {w w' : World} {S : Nat → Prop} {r : Nat} {l : List (Own × Value)} (h : MapAs w r l) (e : Ext S w w') (hs : ¬ S r) : MapAs w' r l := h.of (e.block r h.lt hs)

/-- Where memory and map stand between two acts. -/
def RB (W : World) (A : Nat → Prop) (bm r : Nat) (B : Int) (m : Nat) (w : World) : Prop :=
  ∃ xs l, xs.length ≤ m ∧ MAp W A w bm B xs ∧ MapAs w r l ∧ SizeMap l (szK xs) ∧ Ext Nope W w

theorem lookB {w : World} {r : Nat} {l : List (Own × Value)} {f : Own → Option Int} (h : MapAs w r l) (hs : SizeMap l f) (o : Own) {z : Option Int} (hz : f o = z) :
    (Instr.lookup 30 (.map (some r)) (.agg #[.int .i64 o.f, .int .i64 o.k, .int .i64 o.n, .int .i64 o.r]) true).run Try.prog w = .ok (.tuple #[.int .i64 (z.getD 0), .bool z.isSome]) w := by
  have := run_lookup34 Try.underlying30 zero3 h o true
  rw [hs.get, hz] at this
  rw [show (Value.agg #[.int .i64 o.f, .int .i64 o.k, .int .i64 o.n, .int .i64 o.r]) = o.val from rfl, this]
  cases z <;> rfl
theorem setObj_ext (w : World) (r : Nat) (ob : Obj) : Ext (fun k => k = r) w { w with heap := w.heap.setIfInBounds r ob } := (Ext.refl _ w).setObj r ob (fun _ => rfl)
theorem updB {w : World} {r : Nat} {l : List (Own × Value)} (h : MapAs w r l) (o : Own) (v : Value) :
    ∃ w', (Instr.mapUpdate 30 (.map (some r)) (.agg #[.int .i64 o.f, .int .i64 o.k, .int .i64 o.n, .int .i64 o.r]) v).run Try.prog w = .ok () w' ∧ MapAs w' r (mput l o v) ∧ Ext (fun k => k = r) w w' := by
  obtain ⟨ob, h1, h2⟩ := run_update34 Try.underlying30 h o v
  exact ⟨_, h1, h2, setObj_ext _ _ _⟩
theorem delB {w : World} {r : Nat} {l : List (Own × Value)} (h : MapAs w r l) (o : Own) :
    ∃ w', (Builtin.delete_ #[30, 34] 0 #[.map (some r), (.agg #[.int .i64 o.f, .int .i64 o.k, .int .i64 o.n, .int .i64 o.r])]).run Try.prog w = .ok (.tuple #[]) w' ∧ MapAs w' r (mdel l o) ∧ Ext (fun k => k = r) w w' := by
  obtain ⟨ob, h1, h2⟩ := run_delete34 (ty := 0) Try.underlying30 h o 34
  exact ⟨_, h1, h2, setObj_ext _ _ _⟩

theorem use_there (xs : List Kept) (o : Own) : (useA xs o).1 = (szK xs o).isSome := by
  unfold useA szK
  cases getK xs o <;> rfl
theorem mine_end {W w w' : World} {r : Nat} (h : Ext Nope W w) (e : Ext (fun k => k = r) w w') (hr : W.heap.size ≤ r) : Ext Nope W w' := h.trans (S' := fun k => k = r) e (fun i hi he => by have : i = r := he; omega)

theorem RB.use {W w8 w9 : World} {A A' : Nat → Prop} {bm r m : Nat} {B : Int} {xs : List Kept} {l : List (Own × Value)} (hA : ∀ b, A b → A' b) (hAr : A r) (E : Ext Nope W w8) (hm : MapAs w8 r l) (hs : SizeMap l (szK xs)) (hk : KOk B xs) (hl : xs.length ≤ m) (o : Own)
    (hM9 : MAp W A' w9 bm B (useA xs o).2) (e9 : Ext (Ours W A') w8 w9) : RB W A bm r B m w9 :=
  ⟨_, l, by rw [(useA_ok hk o).2]; exact hl, hM9.weak hA, hm.ext e9 (fun z => z.2 (hA r hAr)), hs.congr fun p => (szK_use hk o p).symm, ours_end E e9⟩
theorem RB.pin {W w8 w9 : World} {A A' : Nat → Prop} {bm r m : Nat} {B : Int} {xs : List Kept} {l : List (Own × Value)} (hA : ∀ b, A b → A' b) (hAr : A r) (E : Ext Nope W w8) (hm : MapAs w8 r l) (hs : SizeMap l (szK xs)) (hk : KOk B xs) (hl : xs.length ≤ m) (o : Own) (on : Bool)
    (hM9 : MAp W A' w9 bm B (pinA xs o on).2) (e9 : Ext (Ours W A') w8 w9) : RB W A bm r B m w9 :=
  ⟨_, l, by rw [(pinA_ok hk o on).2.1]; exact hl, hM9.weak hA, hm.ext e9 (fun z => z.2 (hA r hAr)), hs.congr fun p => (szK_pin hk o on p).symm, ours_end E e9⟩
theorem drop_cases (xs : List Kept) (o : Own) : ((dropA xs o).1 = 0 ∧ (dropA xs o).2 = restK o xs) ∨ ((dropA xs o).1 ≠ 0 ∧ (dropA xs o).2 = xs) := by
  unfold dropA
  split
  · split
    · exact .inr ⟨by simp, rfl⟩
    · exact .inl ⟨rfl, rfl⟩
  · exact .inr ⟨by simp, rfl⟩
theorem RB.kept {W w8 w9 : World} {A A' : Nat → Prop} {bm r m : Nat} {B : Int} {xs : List Kept} {l : List (Own × Value)} (hA : ∀ b, A b → A' b) (hAr : A r) (E : Ext Nope W w8) (hm : MapAs w8 r l) (hs : SizeMap l (szK xs)) (hl : xs.length ≤ m)
    (hM9 : MAp W A' w9 bm B xs) (e9 : Ext (Ours W A') w8 w9) : RB W A bm r B m w9 :=
  ⟨_, l, hl, hM9.weak hA, hm.ext e9 (fun z => z.2 (hA r hAr)), hs, ours_end E e9⟩
theorem RB.drop {W w9 w10 : World} {A A' : Nat → Prop} {bm r m : Nat} {B : Int} {xs : List Kept} {l : List (Own × Value)} (hA : ∀ b, A b → A' b) (hAr : A r) (hr : W.heap.size ≤ r) (E : Ext Nope W w9) (hs : SizeMap l (szK xs)) (hk : KOk B xs) (hl : xs.length ≤ m) (o : Own)
    (hM9 : MAp W A' w9 bm B (restK o xs)) (hm : MapAs w10 r (mdel l o)) (e : Ext (fun k => k = r) w9 w10) : RB W A bm r B m w10 :=
  ⟨_, _, Nat.le_trans (rest_len o xs) hl, (hM9.ext e (fun b hb => by have : b = r := hb; rw [this]; exact hA r hAr)).weak hA, hm, (hs.del o).congr fun p => (szK_rest hk o p).symm, mine_end E e hr⟩

/-- The sizes while what was given up is struck. -/
def GoneF (xs : List Kept) (o : Own) (s : Int) (g : List Own) : Own → Option Int := fun p => if p ∈ g then none else if p = o then some s else szK xs p
theorem goneF_nil (xs : List Kept) (o : Own) (s : Int) (p : Own) : (if p = o then some s else szK xs p) = GoneF xs o s [] p := by simp [GoneF]
theorem goneF_snoc (xs : List Kept) (o : Own) (s : Int) (g : List Own) (y p : Own) : (if p = y then none else GoneF xs o s g p) = GoneF xs o s (g ++ [y]) p := by
  unfold GoneF
  by_cases h : p = y
  · subst h; simp
  · simp [h]
theorem goneF_at {xs : List Kept} {o : Own} {s : Int} {g : List Own} {y : Own} (h1 : y ∉ g) (h2 : y ≠ o) : GoneF xs o s g y = szK xs y := by
  unfold GoneF; rw [if_neg h1, if_neg h2]

/-- Inside the loop over what was given up. -/
structure Giving (W : World) (A : Nat → Prop) (bm r : Nat) (B : Int) (xs : List Kept) (o : Own) (s : Int) (g : List Own) (w9 w : World) : Prop where
  map : ∃ l, MapAs w r l ∧ SizeMap l (GoneF xs o s g)
  mine : Ext (fun k => k = r) w9 w
theorem Giving.start {W w9 w10 : World} {A : Nat → Prop} {bm r : Nat} {B : Int} {xs : List Kept} {l : List (Own × Value)} (hs : SizeMap l (szK xs)) (o : Own) (s : Int) (hm : MapAs w10 r (mput l o (.int .i64 s))) (e : Ext (fun k => k = r) w9 w10) : Giving W A bm r B xs o s [] w9 w10 :=
  ⟨⟨_, hm, (hs.put o s).congr (goneF_nil xs o s)⟩, e⟩
theorem Giving.step {W w9 w w' : World} {A : Nat → Prop} {bm r : Nat} {B : Int} {xs : List Kept} {o : Own} {s : Int} {g : List Own} {l : List (Own × Value)} (h : Ext (fun k => k = r) w9 w) (hs : SizeMap l (GoneF xs o s g)) (y : Own) (hm : MapAs w' r (mdel l y)) (e : Ext (fun k => k = r) w w') : Giving W A bm r B xs o s (g ++ [y]) w9 w' :=
  ⟨⟨_, hm, (hs.del y).congr (goneF_snoc xs o s g y)⟩, h.trans e (fun _ _ z => z)⟩
theorem Giving.done {W w9 w : World} {A A' : Nat → Prop} {bm r m : Nat} {B : Int} {xs : List Kept} {o : Own} {s : Int} (h : Giving W A bm r B xs o s (putA B xs o s).1 w9 w) (h0 : (putA B xs o s).2.1 = 0) (hA : ∀ b, A b → A' b) (hAr : A r) (hr : W.heap.size ≤ r) (E : Ext Nope W w9) (hk : KOk B xs) (hl : xs.length ≤ m)
    (hM9 : MAp W A' w9 bm B (putA B xs o s).2.2) : RB W A bm r B (m + 1) w := by
  obtain ⟨⟨l, h1, h2⟩, h3⟩ := h
  refine ⟨_, l, Nat.le_trans (putA_len B xs o s) (by omega), (hM9.ext h3 (fun b hb => by have : b = r := hb; rw [this]; exact hA r hAr)).weak hA, h1, h2.congr fun p => ?_, mine_end E h3 hr⟩
  rw [(put_sizes hk o s).2.1 h0]; rfl
theorem put_nothing {B : Int} {xs : List Kept} (hk : KOk B xs) {o : Own} {s : Int} (h : (putA B xs o s).2.1 ≠ 0) : (putA B xs o s).1 = [] ∧ (putA B xs o s).2.2 = xs := (put_sizes hk o s).2.2 h
theorem put_gone {B : Int} {xs : List Kept} (hk : KOk B xs) (o : Own) (s : Int) {a b : List Own} {y : Own} (h : (putA B xs o s).1 = a ++ y :: b) : y ≠ o ∧ y ∉ a ∧ (∃ z, szK xs y = some z) := by
  obtain ⟨⟨h1, h2⟩, _⟩ := put_sizes hk o s
  rw [h] at h1 h2
  have h3 := h2 y (by simp)
  refine ⟨h3.2, fun hy => ?_, Option.isSome_iff_exists.1 (szK_some.2 h3.1)⟩
  rw [List.nodup_append] at h1
  exact h1.2.2 y hy y (by simp) rfl
theorem szK_at {xs : List Kept} (hn : (keysK xs).Nodup) {a b : List Kept} {x : Kept} (h : xs = a ++ x :: b) : szK xs x.key = some x.size := (szK_iff hn).2 ⟨x, by rw [h]; simp, rfl, rfl⟩

theorem Giving.alloc {W w9 w : World} {A : Nat → Prop} {bm r : Nat} {B : Int} {xs : List Kept} {o : Own} {s : Int} {g : List Own} (h : Giving W A bm r B xs o s g w9 w) (ob : Obj) : Giving W A bm r B xs o s g w9 (w.alloc ob) := by
  obtain ⟨⟨l, h1, h2⟩, h3⟩ := h
  exact ⟨⟨l, h1.of (heap_alloc_old _ _ _ h1.lt), h2⟩, h3.alloc ob⟩
theorem keepR {wa wb : World} {X b o r : Nat} {x : Own} {s : Int} (e : Ext (fun k => k = r) wa wb) (hX : X ≠ r) (hb : b ≠ r) (lX : X < wa.heap.size) (lb : b < wa.heap.size)
    (h : wa.cell? ⟨X, 0, none⟩ = some (.int .i64 x.f) ∧ wa.cell? ⟨X, 1, none⟩ = some (.int .i64 x.k) ∧ wa.cell? ⟨X, 2, none⟩ = some (.int .i64 x.n) ∧ wa.cell? ⟨X, 3, none⟩ = some (.int .i64 x.r) ∧ wa.cell? ⟨b, o, none⟩ = some (.int .i64 s)) : wb.cell? ⟨X, 0, none⟩ = some (.int .i64 x.f) ∧ wb.cell? ⟨X, 1, none⟩ = some (.int .i64 x.k) ∧ wb.cell? ⟨X, 2, none⟩ = some (.int .i64 x.n) ∧ wb.cell? ⟨X, 3, none⟩ = some (.int .i64 x.r) ∧ wb.cell? ⟨b, o, none⟩ = some (.int .i64 s) := by
  obtain ⟨x0, x1, x2, x3, z⟩ := h
  have hx := e.block X lX hX
  have hz := e.block b lb hb
  exact ⟨(World.cell?_of_block (w := wa) hx).trans x0, (World.cell?_of_block (w := wa) hx).trans x1, (World.cell?_of_block (w := wa) hx).trans x2, (World.cell?_of_block (w := wa) hx).trans x3, (World.cell?_of_block (w := wa) hz).trans z⟩
theorem take_len {α : Type} {xs a b : List α} {y : α} {j : Nat} (h : xs = a ++ y :: b) (hl : a.length = j) : xs.take j = a ∧ xs.take (j + 1) = a ++ [y] := by
  subst hl
  rw [h]
  constructor
  · simp
  · rw [List.take_append, List.take_of_length_le (by omega)]; simp
theorem used_take {xs a b : List Kept} {x : Kept} {j : Nat} (h : xs = a ++ x :: b) (hl : a.length = j) : usedOf (xs.take (j + 1)) = usedOf (xs.take j) + x.size := by
  rw [(take_len h hl).1, (take_len h hl).2, usedOf_append]; simp [usedOf]
theorem used_le {B : Int} {xs : List Kept} (h : KOk B xs) (j : Nat) : 0 ≤ usedOf (xs.take j) ∧ usedOf (xs.take j) ≤ B := by
  have h1 := usedOf_take_le h.size j
  have h2 := h.used
  exact ⟨used_pos fun x hx => h.size x (List.mem_of_mem_take hx), by omega⟩

end Go.Proofs.Ytkloaadaicklfaa
