/-
  A memory beside blocks that it has no part in.
-/
import Derived.Test.YtkloaadaicklfaaL2
namespace Go.Proofs.Ytkloaadaicklfaa
open Go.RowKit
attribute [local go_sem] alloc_drewN setCell_drewN

/-- What may turn: what is new since a world, but for some blocks. -/
def Ours (w0 : World) (A : Nat → Prop) (b : Nat) : Prop := w0.heap.size ≤ b ∧ ¬ A b

structure MAp (w0 : World) (A : Nat → Prop) (w : World) (bm : Nat) (B : Int) (xs : List Kept) : Prop where
  mem : ∃ F, MemIs w bm B xs F ∧ ∀ b, F b → Ours w0 A b ∧ b < w.heap.size
  lt : ∀ b, A b → b < w.heap.size
  ok : KOk B xs
  from0 : w0.heap.size ≤ w.heap.size

theorem MAp.ext {w0 w w' : World} {A S : Nat → Prop} {bm : Nat} {B : Int} {xs : List Kept} (h : MAp w0 A w bm B xs) (e : Ext S w w') (hs : ∀ b, S b → A b) : MAp w0 A w' bm B xs := by
  obtain ⟨⟨F, hm, hF⟩, hA, hk, h0⟩ := h
  have := e.size
  refine ⟨⟨F, hm.ext e (fun b hb hS => (hF b hb).1.2 (hs b hS)), fun b hb => ⟨(hF b hb).1, Nat.lt_of_lt_of_le (hF b hb).2 e.size⟩⟩, fun b hb => Nat.lt_of_lt_of_le (hA b hb) e.size, hk, by omega⟩
theorem MAp.ext0 {w0 w w' : World} {A : Nat → Prop} {bm : Nat} {B : Int} {xs : List Kept} (h : MAp w0 A w bm B xs) (e : Ext Nope w w') : MAp w0 A w' bm B xs := h.ext e fun _ z => z.elim
theorem MAp.weak {w0 w : World} {A A' : Nat → Prop} {bm : Nat} {B : Int} {xs : List Kept} (h : MAp w0 A w bm B xs) (hs : ∀ b, A' b → A b) : MAp w0 A' w bm B xs := by
  obtain ⟨⟨F, hm, hF⟩, hA, hk, h0⟩ := h
  exact ⟨⟨F, hm, fun b hb => ⟨⟨(hF b hb).1.1, fun z => (hF b hb).1.2 (hs b z)⟩, (hF b hb).2⟩⟩, fun b hb => hA b (hs b hb), hk, h0⟩
/-- What is new stands apart from then on. -/
def Also (A : Nat → Prop) (w w' : World) (b : Nat) : Prop := A b ∨ (w.heap.size ≤ b ∧ b < w'.heap.size)
theorem MAp.also {w0 w w' : World} {A : Nat → Prop} {bm : Nat} {B : Int} {xs : List Kept} (h : MAp w0 A w bm B xs) (e : Ext Nope w w') : MAp w0 (Also A w w') w' bm B xs := by
  obtain ⟨⟨F, hm, hF⟩, hA, hk, h0⟩ := h
  have := e.size
  refine ⟨⟨F, hm.ext e (fun _ _ z => z), fun b hb => ⟨⟨(hF b hb).1.1, fun z => ?_⟩, Nat.lt_of_lt_of_le (hF b hb).2 e.size⟩⟩, fun b hb => ?_, hk, by omega⟩
  · rcases z with z | z
    · exact (hF b hb).1.2 z
    · have := (hF b hb).2; omega
  · rcases hb with hb | hb
    · exact Nat.lt_of_lt_of_le (hA b hb) e.size
    · exact hb.2
theorem MAp.act {w0 w w2 : World} {A F : Nat → Prop} {bm : Nat} {B : Int} {ys : List Kept} (hF : ∀ b, F b → Ours w0 A b ∧ b < w.heap.size) (hA : ∀ b, A b → b < w.heap.size) (h0 : w0.heap.size ≤ w.heap.size)
    (hk : KOk B ys) (m : MemIs w2 bm B ys (Grow F w w2)) (e : Ext F w w2) : MAp w0 A w2 bm B ys ∧ Ext (Ours w0 A) w w2 := by
  have := e.size
  refine ⟨⟨⟨_, m, fun b hb => ?_⟩, fun b hb => Nat.lt_of_lt_of_le (hA b hb) e.size, hk, by omega⟩, e.mono fun b hb => (hF b hb).1⟩
  rcases hb with hb | hb
  · exact ⟨(hF b hb).1, Nat.lt_of_lt_of_le (hF b hb).2 e.size⟩
  · exact ⟨⟨by omega, fun z => by have := hA b z; omega⟩, hb.2⟩

theorem ours_end {w0 w w' : World} {A : Nat → Prop} (h : Ext Nope w0 w) (e : Ext (Ours w0 A) w w') : Ext Nope w0 w' := by
  have := h.size
  have := e.size
  refine ⟨e.os.trans h.os, e.tape.trans h.tape, e.output.trans h.output, by omega, fun b hb _ => ?_⟩
  rw [e.block b (by omega) (fun z => by have := z.1; omega), h.block b hb (fun z => z)]
theorem ours_block {w0 w w' : World} {A : Nat → Prop} {b : Nat} {o : Obj} (e : Ext (Ours w0 A) w w') (hA : A b) (h : w.heap[b]? = some o) : w'.heap[b]? = some o :=
  (e.block b (lt_of_heap h) (fun z => z.2 hA)).trans h
theorem KeysAt.ours {w0 w w' : World} {A : Nat → Prop} {base : Nat} {v : Value} {ks : List Own} (h : KeysAt w base v ks) (e : Ext (Ours w0 A) w w') (hA : ∀ b, base ≤ b → b < w.heap.size → A b) : KeysAt w' base v ks := by
  have hl := h.lt
  obtain ⟨h1, h2⟩ := h
  refine ⟨h1, h2.imp id ?_⟩
  rintro ⟨g, cap, cur, hv, hb, hg, rest⟩
  have hgl := lt_of_heap hg
  exact ⟨g, cap, cur, hv, hb, (e.block g hgl (fun z => z.2 (hA g hb hgl))).trans hg, rest⟩

theorem KeysAt.ext2 {w w' : World} {S : Nat → Prop} {base : Nat} {v : Value} {ks : List Own} (h : KeysAt w base v ks) (e : Ext S w w') (hs : ∀ g, v.ownBlock = some g → ¬ S g) : KeysAt w' base v ks := by
  obtain ⟨h1, h2⟩ := h
  refine ⟨h1, h2.imp id ?_⟩
  rintro ⟨g, cap, cur, hv, hb, hg, rest⟩
  exact ⟨g, cap, cur, hv, hb, (e.block g (lt_of_heap hg) (hs g (by rw [hv]; rfl))).trans hg, rest⟩
/-- Keys in a slice that stands apart. -/
def KeysOf (A : Nat → Prop) (w : World) (v : Value) (ks : List Own) : Prop := (∃ base, KeysAt w base v ks) ∧ ∀ g, v.ownBlock = some g → A g
theorem KeysOf.of {A : Nat → Prop} {w : World} {base : Nat} {v : Value} {ks : List Own} (h : KeysAt w base v ks) (hA : ∀ b, base ≤ b → b < w.heap.size → A b) : KeysOf A w v ks :=
  ⟨⟨base, h⟩, fun g hg => hA g (h.lt g hg).1 (h.lt g hg).2⟩
theorem KeysOf.mono {A A' : Nat → Prop} {w : World} {v : Value} {ks : List Own} (h : KeysOf A w v ks) (hA : ∀ b, A b → A' b) : KeysOf A' w v ks := ⟨h.1, fun g hg => hA g (h.2 g hg)⟩
theorem KeysOf.ours {A : Nat → Prop} {w0 w w' : World} {v : Value} {ks : List Own} (h : KeysOf A w v ks) (e : Ext (Ours w0 A) w w') : KeysOf A w' v ks := by
  obtain ⟨⟨base, h1⟩, h2⟩ := h
  exact ⟨⟨base, h1.ext2 e fun g hg z => z.2 (h2 g hg)⟩, h2⟩
theorem KeysOf.ext {A : Nat → Prop} {w w' : World} {v : Value} {ks : List Own} (h : KeysOf A w v ks) (e : Ext Nope w w') : KeysOf A w' v ks := by
  obtain ⟨⟨base, h1⟩, h2⟩ := h
  exact ⟨⟨base, h1.ext2 e fun g hg z => z⟩, h2⟩
theorem same_of {A A' : Nat → Prop} {w : World} {p q : Value} {ks ls : List Own} (hp : KeysOf A w p ks) (hq : KeysOf A' w q ls) (hk : ks.length ≤ 1000) (hl : ls.length ≤ 1000) :
    Calls Try.prog 20 #[p, q] w fun e w' => e = .returned (.bool (decide (ks = ls))) ∧ Ext Nope w w' := by
  obtain ⟨⟨b1, h1⟩, _⟩ := hp
  obtain ⟨⟨b2, h2⟩, _⟩ := hq
  exact same_walk h1 h2 (by omega) (by omega)

theorem map_new (n : Int) (w0 w : World) (hs : w0.heap.size ≤ w.heap.size) (h1 : 0 ≤ n) (h2 : n ≤ 1073741824) :
    Calls Try.prog 12 #[.int .i64 n] w fun e w' => ∃ bm, e = .returned (ptr bm) ∧ MAp w0 (fun b => b < w.heap.size) w' bm n [] ∧ Ext Nope w w' := by
  refine (mnew_calls n w h1 h2).mono ?_
  rintro e w' ⟨bm, rfl, hm, he⟩
  have := he.size
  exact ⟨bm, rfl, ⟨⟨_, hm, fun b hb => ⟨⟨by omega, by omega⟩, hb.2⟩⟩, fun b hb => by omega, kok_nil h1 h2, by omega⟩, he⟩
theorem map_use {w0 w : World} {A : Nat → Prop} {bm : Nat} {B : Int} {xs : List Kept} (h : MAp w0 A w bm B xs) (o : Own) :
    Calls Try.prog 14 #[ptr bm, o.val] w fun e w' => e = .returned (.bool (useA xs o).1) ∧ MAp w0 A w' bm B (useA xs o).2 ∧ Ext (Ours w0 A) w w' := by
  obtain ⟨⟨F, hm, hF⟩, hA, hk, h0⟩ := h
  refine (muse_calls hm hk o).mono ?_
  rintro e w' ⟨rfl, m, e2⟩
  exact ⟨rfl, MAp.act hF hA h0 (useA_ok hk o).1 m e2⟩
theorem map_pin {w0 w : World} {A : Nat → Prop} {bm : Nat} {B : Int} {xs : List Kept} (h : MAp w0 A w bm B xs) (o : Own) (on : Bool) :
    Calls Try.prog 15 #[ptr bm, o.val, .bool on] w fun e w' => e = .returned (.int .i64 (pinA xs o on).1) ∧ MAp w0 A w' bm B (pinA xs o on).2 ∧ Ext (Ours w0 A) w w' := by
  obtain ⟨⟨F, hm, hF⟩, hA, hk, h0⟩ := h
  refine (mpin_calls hm hk o on).mono ?_
  rintro e w' ⟨rfl, m, e2⟩
  exact ⟨rfl, MAp.act hF hA h0 (pinA_ok hk o on).1 m e2⟩
theorem map_drop {w0 w : World} {A : Nat → Prop} {bm : Nat} {B : Int} {xs : List Kept} (h : MAp w0 A w bm B xs) (o : Own) :
    Calls Try.prog 16 #[ptr bm, o.val] w fun e w' => e = .returned (.int .i64 (dropA xs o).1) ∧ MAp w0 A w' bm B (dropA xs o).2 ∧ Ext (Ours w0 A) w w' := by
  obtain ⟨⟨F, hm, hF⟩, hA, hk, h0⟩ := h
  refine (mdrop_calls hm hk o).mono ?_
  rintro e w' ⟨rfl, m, e2⟩
  exact ⟨rfl, MAp.act hF hA h0 (dropA_ok hk o).1 m e2⟩
theorem map_put {w0 w : World} {A : Nat → Prop} {bm : Nat} {B : Int} {xs : List Kept} (h : MAp w0 A w bm B xs) (hl : xs.length ≤ 900) (o : Own) (s : Int) :
    Calls Try.prog 17 #[ptr bm, o.val, .int .i64 s] w fun e w' => ∃ v, e = .returned (.tuple #[v, .int .i64 (putA B xs o s).2.1]) ∧ KeysAt w' w.heap.size v (putA B xs o s).1 ∧ MAp w0 A w' bm B (putA B xs o s).2.2 ∧ Ext (Ours w0 A) w w' := by
  obtain ⟨⟨F, hm, hF⟩, hA, hk, h0⟩ := h
  refine (mput_calls hm hk (by omega) o s).mono ?_
  rintro e w' ⟨v, rfl, hks, m, e2⟩
  exact ⟨v, rfl, hks, MAp.act hF hA h0 (putA_ok hk o s) m e2⟩
theorem map_list {w0 w : World} {A : Nat → Prop} {bm : Nat} {B : Int} {xs : List Kept} (h : MAp w0 A w bm B xs) (hl : xs.length ≤ 900) :
    Calls Try.prog 18 #[ptr bm] w fun e w' => ∃ v, e = .returned v ∧ KeysAt w' w.heap.size v (keysK xs) ∧ Ext Nope w w' := by
  obtain ⟨⟨F, hm, hF⟩, hA, hk, h0⟩ := h
  exact mlist_calls hm (by omega)
theorem map_used {w0 w : World} {A : Nat → Prop} {bm : Nat} {B : Int} {xs : List Kept} (h : MAp w0 A w bm B xs) :
    Calls Try.prog 19 #[ptr bm] w fun e w' => e = .returned (.int .i64 (usedOf xs)) ∧ w = w' := by
  obtain ⟨⟨F, hm, hF⟩, hA, hk, h0⟩ := h
  exact mused_calls hm
/-- From both memories. -/
theorem BNew.toMAp {w0 w1 w : World} {bm br : Nat} {B : Int} {xs : List Kept} (h : BNew w1 w bm br B xs) (h0 : w0.heap.size ≤ w1.heap.size) : MAp w0 (fun b => b < w1.heap.size) w bm B xs := by
  obtain ⟨F, G, hb, hF, hG, e⟩ := h
  have := e.size
  exact ⟨⟨F, hb.mem, fun b hb' => ⟨⟨by have := hF b hb'; omega, by have := hF b hb'; omega⟩, hb.fl b hb'⟩⟩, fun b hb' => by omega, hb.ok, by omega⟩

end Go.Proofs.Ytkloaadaicklfaa
