/-
  The walk of List.
-/
import Derived.Test.YtkloaadaicklfaaW5
namespace Go.Proofs.Ytkloaadaicklfaa
open Go.RowKit

theorem Ext.grown {S : Nat → Prop} {a b c : World} {row : Option Nat} (h : Ext S a b) (hg : b.grownBy c row) (hr : ∀ k, row = some k → k < a.heap.size → S k) : Ext S a c :=
  ⟨hg.os.trans h.os, hg.tape.trans h.tape, hg.output.trans h.output, Nat.le_trans h.size hg.size, fun i hi hn =>
    (hg.block i (Nat.lt_of_lt_of_le hi h.size) (fun e => hn (hr i e.symm hi))).trans (h.block i hi hn)⟩

/-- Keys as cells. -/
def keyCells (ks : List Own) : List Value := ks.flatMap fun o => [.int .i64 o.f, .int .i64 o.k, .int .i64 o.n, .int .i64 o.r]
theorem keyCells_append (a b : List Own) : keyCells (a ++ b) = keyCells a ++ keyCells b := by simp [keyCells]
theorem keyCells_one (o : Own) : keyCells [o] = [.int .i64 o.f, .int .i64 o.k, .int .i64 o.n, .int .i64 o.r] := rfl
theorem keyCells_length (a : List Own) : (keyCells a).length = a.length * 4 := by
  induction a with
  | nil => rfl
  | cons o a ih => simp only [keyCells, List.flatMap_cons, List.length_append, List.length_cons, List.length_nil] at ih ⊢; omega

theorem info34 : (Try.prog.info? 34).map (fun i => (i.zero, i.size, i.bytes)) = some (some (.agg #[.int .i64 0, .int .i64 0, .int .i64 0, .int .i64 0]), 4, 32) := by kernel_rfl

/-- A slice of keys that lies in blocks from 'base' on. -/
def KeysAt (w : World) (base : Nat) (v : Value) (ks : List Own) : Prop := w.ownsRow base 34 4 v ks.length (keyCells ks)

theorem list_nil (w : World) : Calls Try.prog 18 #[.pointer none] w fun e w' => e = .returned (.slice none 0 0) ∧ w = w' := by
  go_enter Try.func18, Try.ntmps18
  go_wp2
  go_ret
  exact ⟨rfl, rfl⟩
theorem list_zero (bm : Nat) (w : World) (hm : w.cell? ⟨bm, 3, none⟩ = some (.pointer none)) : Calls Try.prog 18 #[ptr bm] w fun e w' => e = .returned (.slice none 0 0) ∧ w = w' := by
  go_enter Try.func18, Try.ntmps18
  go_wp2
  go_ret
  exact ⟨rfl, rfl⟩

theorem nextOf_nil (bh : Nat) : nextOf bh [] = bh := rfl
theorem nextOf_cons (bh : Nat) (p : Nat × Kept) (r : List (Nat × Kept)) : nextOf bh (p :: r) = p.1 := rfl

set_option maxHeartbeats 1000000 in
theorem list_walk {w : World} {bm bh bk : Nat} {B : Int} {es : List (Nat × Kept)} (h : MRep w bm bh bk B es) (hlen : es.length ≤ 1000000) :
    Calls Try.prog 18 #[ptr bm] w fun e w' => ∃ v, e = .returned v ∧ KeysAt w' w.heap.size v (keysOf es) ∧ Ext Nope w w' := by
  obtain ⟨i0, hi, hz0, hz1, hz2⟩ := info_parts info34
  have c3 : w.cell? ⟨bm, 3, none⟩ = some (ptr bh) := by rw [show (⟨bm, 3, none⟩ : Addr) = at_ bm 3 from rfl, cell_of_blk h.self]; rfl
  have c7 := h.ring.starts
  go_enter Try.func18, Try.ntmps18
  go_wp2
  clear c3 c7
  go_loopg [3, 4] es.length (fun g v e wr => ∃ (l r : List (Nat × Kept)), Hid (es = l ++ r) ∧ r.length ≤ g ∧ e = ptr (nextOf bh r) ∧ KeysAt wr w.heap.size v (keysOf l) ∧ Ext Nope w wr)
  case atStart => exact ⟨[], es, rfl, Nat.le_refl _, rfl, World.ownsRow_nil _ _ _ _, Ext.refl _ _⟩
  case round =>
    obtain ⟨l, r, HE, hr, rfl, hk, hx⟩ := hrel
    have hm := h.ext hx (fun _ _ x => x)
    have c3 : wr.cell? ⟨bm, 3, none⟩ = some (ptr bh) := by rw [show (⟨bm, 3, none⟩ : Addr) = at_ bm 3 from rfl, cell_of_blk hm.self]; rfl
    cases r with
    | nil =>
      simp only [nextOf_nil]
      have hq := ptr_neq_same wr bh
      clear hm
      go_wp2
      go_ret
      have he : es = l := by rw [HE.out, List.append_nil]
      exact ⟨_, rfl, he ▸ hk, hx⟩
    | cons p r =>
      simp only [nextOf_cons]
      have hr1 : Row wr bh 8 78 := hm.ring.rows bh (by simp)
      have hpm : p ∈ es := by rw [HE.out]; simp
      have hr2 : Row wr p.1 8 78 := hm.ring.rows p.1 (List.mem_cons_of_mem _ (List.mem_map_of_mem hpm))
      have hne : p.1 ≠ bh := fun e => (List.nodup_cons.1 hm.ring.nodup).1 (e ▸ List.mem_map_of_mem hpm)
      have hq := ptr_neq_other hne hr2 hr1
      obtain ⟨v0, v1, v2, v3, _, _⟩ := hm.ring.vals p hpm
      have hlt : p.1 < wr.heap.size := hr2.lt
      have c7 : wr.cell? (at_ p.1 7) = some (ptr (nextOf bh r)) := by
        have := hm.ring
        rw [HE.out] at this
        exact this.at.2.1
      clear hr1 hr2 hne hm
      have hown : wr.ownsRow w.heap.size 34 4 _ (keysOf l).length (keyCells (keysOf l)) := hk
      have hlen2 : (keysOf l).length + 1 ≤ 1000000 := by
        have := congrArg List.length HE.out
        simp at this ⊢
        omega
      clear hk
      go_wp2_with (first | (at_builtin; refine wpList_append_own _ rfl (.tmp 31) (.tmp 37) 43 rfl w.heap.size 34 i0 _ 4 32 Try.underlying43 hi hz0 hz1 hz2 rfl (by decide) _ _ _ rfl (hown.alloc _) ⟨wr.heap.size, 0, none⟩ 1 1 (keyCells [p.2.key]) rfl rfl ?c1 ?c2 ?c3 ?c4 ?c5 ?_) | go_in)
      case c1 =>
        intro j u hj
        rw [keyCells_one] at hj
        match j, hj with
        | 0, hj => simp at hj; subst hj; simp [Addr.add]
        | 1, hj => simp at hj; subst hj; simp [Addr.add]
        | 2, hj => simp at hj; subst hj; simp [Addr.add]
        | 3, hj => simp at hj; subst hj; simp [Addr.add]
      case c2 =>
        intro u hu
        rw [keyCells_one] at hu
        simp at hu
        rcases hu with rfl | rfl | rfl | rfl <;> rfl
      case c3 => unfold maxLen; omega
      case c4 => omega
      case c5 => have := hx.size; simp; omega
      intro v' w1 hown' hgrow _
      have hx1 : Ext Nope w w1 := (hx.alloc _).grown hgrow fun k hk2 hlt2 => absurd (hown.lt k hk2).1 (by omega)
      have c7' : w1.cell? ⟨p.1, 7, none⟩ = some (ptr (nextOf bh r)) := by
        have := (h.ext hx1 (fun _ _ x => x)).ring
        rw [HE.out] at this
        exact this.at.2.1
      have HO : Hid (KeysAt w1 w.heap.size v' (keysOf (l ++ [p]))) := by
        show w1.ownsRow w.heap.size 34 4 v' (keysOf (l ++ [p])).length (keyCells (keysOf (l ++ [p])))
        rw [show keysOf (l ++ [p]) = keysOf l ++ [p.2.key] from by simp [keysOf], keyCells_append, List.length_append]
        simpa using hown'
      clear hown' hgrow c7 hown v0 v1 v2 v3 c3 hq hx hlt
      go_wp2
      go_roundg r.length
      case measure => simp at hr; omega
      case rel => exact ⟨l ++ [p], r, by rw [HE.out]; show _ = _; simp, Nat.le_refl _, rfl, HO.out, hx1⟩

end Go.Proofs.Ytkloaadaicklfaa
