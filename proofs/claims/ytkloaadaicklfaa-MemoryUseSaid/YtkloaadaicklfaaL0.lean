/-
  Both memories side by side, and the key of a number.
-/
import Derived.Test.YtkloaadaicklfaaC1
namespace Go.Proofs.Ytkloaadaicklfaa
open Go.RowKit
attribute [local go_sem] alloc_drewN setCell_drewN

def keyA (n : Int) : Own := ⟨n % 2, 2, n / 2, 0⟩

set_option maxHeartbeats 1000000 in
theorem key_calls (n : Int) (w : World) (h0 : 0 ≤ n) (h1 : n ≤ 1000) : Calls Try.prog 13 #[.int .i64 n] w fun e w' => e = .returned (keyA n).val ∧ Ext Nope w w' := by
  go_enter Try.func13, Try.ntmps13
  go_wp2
  exact bodyPost_ret (v := (keyA n).val) (by simp [results, Try.results13, go_sem, keyA]) rfl ⟨rfl, (Ext.refl _ _).alloc _⟩

/-- Both memories, side by side. -/
structure Both (w : World) (bm br : Nat) (B : Int) (xs : List Kept) (F G : Nat → Prop) : Prop where
  mem : MemIs w bm B xs F
  ref : RefIs w br B xs G
  ok : KOk B xs
  apart : ∀ b, F b → ¬ G b
  fl : ∀ b, F b → b < w.heap.size
  gl : ∀ b, G b → b < w.heap.size

theorem Both.ext {w w' : World} {bm br : Nat} {B : Int} {xs : List Kept} {F G S : Nat → Prop} (h : Both w bm br B xs F G) (he : Ext S w w') (hs : ∀ b, F b ∨ G b → ¬ S b) : Both w' bm br B xs F G :=
  ⟨h.mem.ext he fun b hb => hs b (.inl hb), h.ref.ext he fun b hb => hs b (.inr hb), h.ok, h.apart, fun b hb => Nat.lt_of_lt_of_le (h.fl b hb) he.size, fun b hb => Nat.lt_of_lt_of_le (h.gl b hb) he.size⟩

/-- What an act on both leaves. -/
def ActOK (w : World) (bm br : Nat) (B : Int) (F G : Nat → Prop) (ys : List Kept) (w' : World) : Prop :=
  ∃ F' G', Both w' bm br B ys F' G' ∧ (∀ b, F' b → F b ∨ w.heap.size ≤ b) ∧ (∀ b, G' b → G b ∨ w.heap.size ≤ b) ∧ Ext (fun b => F b ∨ G b) w w'

theorem ActOK.mk {w w1 w2 w3 w4 w5 : World} {bm br : Nat} {B : Int} {xs ys : List Kept} {F G : Nat → Prop} (h : Both w bm br B xs F G) (hk : KOk B ys) (e1 : Ext Nope w w1) (m2 : MemIs w2 bm B ys (Grow F w1 w2)) (e2 : Ext F w1 w2) (e3 : Ext Nope w2 w3)
    (r4 : RefIs w4 br B ys (Grow G w3 w4)) (e4 : Ext G w3 w4) (e5 : Ext Nope w4 w5) : ActOK w bm br B F G ys w5 := by
  have s1 := e1.size
  have s2 := e2.size
  have s3 := e3.size
  have s4 := e4.size
  have s5 := e5.size
  refine ⟨Grow F w1 w2, Grow G w3 w4, ⟨?_, ?_, hk, ?_, ?_, ?_⟩, ?_, ?_, ?_⟩
  · refine ((m2.ext e3 (fun _ _ z => z)).ext e4 fun b hb => ?_).ext e5 (fun _ _ z => z)
    rcases hb with hb | hb
    · exact h.apart b hb
    · intro hg; have := h.gl b hg; omega
  · exact r4.ext e5 (fun _ _ z => z)
  · rintro b (hb | hb) (hg | hg)
    · exact h.apart b hb hg
    · have := h.fl b hb; omega
    · have := h.gl b hg; omega
    · omega
  · rintro b (hb | hb)
    · have := h.fl b hb; omega
    · omega
  · rintro b (hb | hb)
    · have := h.gl b hb; omega
    · omega
  · rintro b (hb | hb)
    · exact .inl hb
    · right; omega
  · rintro b (hb | hb)
    · exact .inl hb
    · right; omega
  · have k1 : Ext (fun b => F b ∨ G b) w w2 := (e1.mono (fun _ z => z.elim)).trans e2 (fun _ _ hb => .inl hb)
    exact ((k1.trans e3 (fun _ _ z => z.elim)).trans e4 (fun _ _ hb => .inr hb)).trans e5 (fun _ _ z => z.elim)

end Go.Proofs.Ytkloaadaicklfaa
