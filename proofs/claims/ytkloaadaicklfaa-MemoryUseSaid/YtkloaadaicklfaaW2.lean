/-
  Find where nothing is, and what Use, Pin and Drop do then.
-/
import Derived.Test.YtkloaadaicklfaaW1
namespace Go.Proofs.Ytkloaadaicklfaa
open Go.RowKit

def Nope : Nat → Prop := fun _ => False

abbrev ownCells (o : Own) : Array Value := #[.int .i64 o.f, .int .i64 o.k, .int .i64 o.n, .int .i64 o.r]

theorem zero62 (w : World) : (zeroValue 62).run Try.prog w = .ok (.pointer none) w := by kernel_rfl

theorem find_hit {w : World} {bm bh bk : Nat} {B : Int} {es : List (Nat × Kept)} (h : MRep w bm bh bk B es) (p : Nat × Kept) (hp : p ∈ es) (o : Own) (ho : p.2.key = o) :
    Calls Try.prog 27 #[ptr bm, o.val] w fun e w' => e = .returned (.tuple #[ptr p.1, .bool true]) ∧ Ext Nope w w' := by
  obtain ⟨m, hm, hmn, hmg⟩ := h.index
  have hlt := h.lt (b := bm) (.inl rfl)
  have hm2 : MapAs (w.alloc (.cells (ownCells o) 34)).drew bk m := hm.of (heap_alloc_old _ _ _ hm.lt)
  have hg : mget m o = some (ptr p.1) := (hmg o _).2 ⟨p, hp, ho, rfl⟩
  have hl := run_lookup34 Try.underlying63 zero62 hm2 o true
  rw [hg] at hl
  refine (find_some o bm bh bk w (ptr p.1) true hlt ?_ ?_ hl).mono ?_
  · rw [show (⟨bm, 3, none⟩ : Addr) = at_ bm 3 from rfl, cell_of_blk h.self]; rfl
  · rw [show (⟨bm, 4, none⟩ : Addr) = at_ bm 4 from rfl, cell_of_blk h.self]; rfl
  · rintro e w' ⟨rfl, rfl⟩
    exact ⟨rfl, ((Ext.refl _ _).alloc _).drew⟩

theorem find_miss {w : World} {bm bh bk : Nat} {B : Int} {es : List (Nat × Kept)} (h : MRep w bm bh bk B es) (o : Own) (ho : o ∉ keysOf es) :
    Calls Try.prog 27 #[ptr bm, o.val] w fun e w' => e = .returned (.tuple #[.pointer none, .bool false]) ∧ Ext Nope w w' := by
  obtain ⟨m, hm, hmn, hmg⟩ := h.index
  have hlt := h.lt (b := bm) (.inl rfl)
  have hm2 : MapAs (w.alloc (.cells (ownCells o) 34)).drew bk m := hm.of (heap_alloc_old _ _ _ hm.lt)
  have hg : mget m o = none := by
    cases hx : mget m o with
    | none => rfl
    | some v =>
      obtain ⟨p, hp, hpo, _⟩ := (hmg o v).1 hx
      exact absurd (List.mem_map.2 ⟨p, hp, hpo⟩) ho
  have hl := run_lookup34 Try.underlying63 zero62 hm2 o true
  rw [hg] at hl
  refine (find_some o bm bh bk w (.pointer none) false hlt ?_ ?_ hl).mono ?_
  · rw [show (⟨bm, 3, none⟩ : Addr) = at_ bm 3 from rfl, cell_of_blk h.self]; rfl
  · rw [show (⟨bm, 4, none⟩ : Addr) = at_ bm 4 from rfl, cell_of_blk h.self]; rfl
  · rintro e w' ⟨rfl, rfl⟩
    exact ⟨rfl, ((Ext.refl _ _).alloc _).drew⟩

theorem find_none (o : Own) (w : World) :
    Calls Try.prog 27 #[.pointer none, o.val] w fun e w' => e = .returned (.tuple #[.pointer none, .bool false]) ∧ Ext Nope w w' :=
  (find_nil o w).mono fun _ _ ⟨h1, h2⟩ => ⟨h1, h2 ▸ (Ext.refl _ _).alloc _⟩

/-- A zero Memory. -/
def ZRep (w : World) (bm : Nat) : Prop := w.heap[bm]? = some (.cells #[.int .i64 0, .int .i64 0, .int .i64 0, .pointer none, .map none] 65 (0, 0))
theorem ZRep.ext {w w' : World} {bm : Nat} (h : ZRep w bm) {S : Nat → Prop} (he : Ext S w w') (hs : ¬ S bm) : ZRep w' bm := (he.block bm (lt_of_heap h) hs).trans h

theorem find_zrep {w : World} {bm : Nat} (h : ZRep w bm) (o : Own) :
    Calls Try.prog 27 #[ptr bm, o.val] w fun e w' => e = .returned (.tuple #[.pointer none, .bool false]) ∧ Ext Nope w w' :=
  (find_zero o bm w (lt_of_heap h) (by rw [show (⟨bm, 3, none⟩ : Addr) = at_ bm 3 from rfl, cell_of_blk h]; rfl)).mono fun _ _ ⟨h1, h2⟩ => ⟨h1, h2 ▸ (Ext.refl _ _).alloc _⟩

/-- 'Use' where there is no such key, told by what 'find' does. -/
def FindsNone (w : World) (m : Value) (o : Own) : Prop :=
  ∀ w', Ext Nope w w' → Calls Try.prog 27 #[m, o.val] w' fun e w'' => e = .returned (.tuple #[.pointer none, .bool false]) ∧ Ext Nope w' w''

theorem FindsNone.nil (w : World) (o : Own) : FindsNone w (.pointer none) o := fun w' _ => find_none o w'
theorem FindsNone.zero {w : World} {bm : Nat} (h : ZRep w bm) (o : Own) : FindsNone w (ptr bm) o := fun _ he => find_zrep (h.ext he (fun x => x)) o
theorem FindsNone.miss {w : World} {bm bh bk : Nat} {B : Int} {es : List (Nat × Kept)} (h : MRep w bm bh bk B es) (o : Own) (ho : o ∉ keysOf es) : FindsNone w (ptr bm) o :=
  fun _ he => find_miss (h.ext he (fun _ _ x => x)) o ho

set_option maxHeartbeats 400000 in
theorem use_none (m : Value) (o : Own) (w : World) (h : FindsNone w m o) :
    Calls Try.prog 14 #[m, o.val] w fun e w' => e = .returned (.bool false) ∧ Ext Nope w w' := by
  go_enter Try.func14, Try.ntmps14
  go_wp2_with fail
  refine (h _ ((Ext.refl _ _).alloc _)).mono ?_
  rintro e w' ⟨rfl, hx⟩
  go_wp2
  go_ret
  exact ⟨rfl, ((Ext.refl _ _).alloc _).trans hx (fun _ _ h => h)⟩

set_option maxHeartbeats 400000 in
theorem pin_none (m : Value) (o : Own) (on : Bool) (w : World) (h : FindsNone w m o) :
    Calls Try.prog 15 #[m, o.val, .bool on] w fun e w' => e = .returned (.int .i64 5) ∧ Ext Nope w w' := by
  go_enter Try.func15, Try.ntmps15
  go_wp2_with fail
  refine (h _ ((Ext.refl _ _).alloc _)).mono ?_
  rintro e w' ⟨rfl, hx⟩
  go_wp2
  go_ret
  exact ⟨rfl, ((Ext.refl _ _).alloc _).trans hx (fun _ _ h => h)⟩

set_option maxHeartbeats 400000 in
theorem drop_none (m : Value) (o : Own) (w : World) (h : FindsNone w m o) :
    Calls Try.prog 16 #[m, o.val] w fun e w' => e = .returned (.int .i64 5) ∧ Ext Nope w w' := by
  go_enter Try.func16, Try.ntmps16
  go_wp2_with fail
  refine (h _ ((Ext.refl _ _).alloc _)).mono ?_
  rintro e w' ⟨rfl, hx⟩
  go_wp2
  go_ret
  exact ⟨rfl, ((Ext.refl _ _).alloc _).trans hx (fun _ _ h => h)⟩

end Go.Proofs.Ytkloaadaicklfaa
