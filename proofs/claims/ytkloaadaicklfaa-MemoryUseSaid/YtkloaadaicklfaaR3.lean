/-
  The reference memory: Use, Pin and Drop where nothing is; Pin and Drop.
-/
import Derived.Test.YtkloaadaicklfaaR2
namespace Go.Proofs.Ytkloaadaicklfaa
open Go.RowKit
attribute [local go_sem] alloc_drewN setCell_drewN

/-- What 'find' of the reference answers where there is no such key. -/
def RFindsNone (w : World) (m : Value) (o : Own) : Prop :=
  ∀ w', Ext Nope w w' → Calls Try.prog 35 #[m, o.val] w' fun e w'' => e = .returned (.int .i64 (-1)) ∧ Ext Nope w' w''
theorem RFindsNone.miss {w : World} {br : Nat} {B : Int} {v : Value} {xs : List Kept} (h : RRep w br B v xs) (o : Own) (ha : ∀ y ∈ xs, y.key ≠ o) (hlen : xs.length ≤ 1000000) : RFindsNone w (ptr br) o :=
  fun _ he => rfind_miss (h.ext he (fun x => x) (fun _ _ x => x)) o ha hlen

set_option maxHeartbeats 400000 in
theorem ruse_none (m : Value) (o : Own) (w : World) (h : RFindsNone w m o) :
    Calls Try.prog 31 #[m, o.val] w fun e w' => e = .returned (.bool false) ∧ Ext Nope w w' := by
  go_enter Try.func31, Try.ntmps31
  go_wp2_with fail
  refine (h _ ((Ext.refl _ _).alloc _)).mono ?_
  rintro e w' ⟨rfl, hx⟩
  go_wp2
  go_ret
  exact ⟨rfl, ((Ext.refl _ _).alloc _).trans hx (fun _ _ h => h)⟩
set_option maxHeartbeats 400000 in
theorem rpin_none (m : Value) (o : Own) (on : Bool) (w : World) (h : RFindsNone w m o) :
    Calls Try.prog 32 #[m, o.val, .bool on] w fun e w' => e = .returned (.int .i64 5) ∧ Ext Nope w w' := by
  go_enter Try.func32, Try.ntmps32
  go_wp2_with fail
  refine (h _ ((Ext.refl _ _).alloc _)).mono ?_
  rintro e w' ⟨rfl, hx⟩
  go_wp2
  go_ret
  exact ⟨rfl, ((Ext.refl _ _).alloc _).trans hx (fun _ _ h => h)⟩
set_option maxHeartbeats 400000 in
theorem rdrop_none (m : Value) (o : Own) (w : World) (h : RFindsNone w m o) :
    Calls Try.prog 33 #[m, o.val] w fun e w' => e = .returned (.int .i64 5) ∧ Ext Nope w w' := by
  go_enter Try.func33, Try.ntmps33
  go_wp2_with fail
  refine (h _ ((Ext.refl _ _).alloc _)).mono ?_
  rintro e w' ⟨rfl, hx⟩
  go_wp2
  go_ret
  exact ⟨rfl, ((Ext.refl _ _).alloc _).trans hx (fun _ _ h => h)⟩

theorem RRep.alloc {w : World} {br : Nat} {B : Int} {v : Value} {xs : List Kept} (h : RRep w br B v xs) (o : Obj) : RRep (w.alloc o) br B v xs :=
  h.ext (S := Nope) ((Ext.refl _ _).alloc _) (fun x => x) (fun _ _ x => x)

/-- The blocks of a reference memory. -/
def RFoot (br : Nat) (v : Value) (b : Nat) : Prop := b = br ∨ v.ownBlock = some b

theorem kept_set {a b : List Kept} {x : Kept} (on : Bool) : (keptCells (a ++ x :: b)).set (a.length * 6 + 5) (.bool on) = keptCells (a ++ ⟨x.key, x.size, on⟩ :: b) := by
  rw [keptCells_append, keptCells_append, ← keptCells_length, List.set_append_right _ _ (by omega), Nat.add_sub_cancel_left, keptCells_cons, keptCells_cons]
  rfl

set_option maxHeartbeats 1000000 in
theorem rpin_hit {w : World} {br : Nat} {B : Int} {v : Value} {a b : List Kept} {x : Kept} (h : RRep w br B v (a ++ x :: b)) (o : Own) (hx : x.key = o) (ha : ∀ y ∈ a, y.key ≠ o) (hlen : (a ++ x :: b).length ≤ 1000000) (on : Bool) :
    Calls Try.prog 32 #[ptr br, o.val, .bool on] w fun e w' => e = .returned (.int .i64 0) ∧ RRep w' br B v (a ++ ⟨x.key, x.size, on⟩ :: b) ∧ Ext (RFoot br v) w w' := by
  have F := rfind_hit (h.alloc (.cells (ownCells o) 34)) o hx ha hlen
  obtain ⟨_, hnil⟩ | ⟨g, cap, hv, hcap, hmax⟩ := h.shape
  · simp at hnil
  have hal : a.length < (a ++ x :: b).length := by simp
  obtain ⟨n, HN⟩ : ∃ n, Hid ((a ++ x :: b).length = n) := ⟨_, rfl⟩
  rw [HN.out] at hv hcap hlen hal
  subst hv
  unfold maxLen at hmax
  go_enter Try.func32, Try.ntmps32
  go_wp2_with fail
  refine F.mono ?_
  rintro e w2 ⟨rfl, hE⟩
  have h2 := (h.alloc (.cells (ownCells o) 34)).ext hE (fun x => x) (fun _ _ x => x)
  have hE2 := ext0 ((Ext.refl Nope w).alloc (.cells (ownCells o) 34)) hE
  have c2 := h2.c2
  obtain ⟨_, _, _, _, _, y5⟩ := kept_cells h2.list
  have f5 : w2.frozen? ⟨g, a.length * 6 + 5, none⟩ = false := by
    obtain ⟨cur, hg, _⟩ := h2.list.heap
    exact free_of_blk hg _
  have hst : w2.ownsRow 0 55 6 (.slice (some ⟨g, 0, none⟩) n cap) (a ++ x :: b).length (keptCells (a ++ x :: b)) := h2.list
  rw [HN.out] at hst
  have hst2 := (hst.stored (a.length * 6 + 5) (.bool on)).1
  rw [kept_set] at hst2
  have hap := h2.apart
  have hself := h2.self
  have HS := toHid hst2
  have HX := toHid hap
  have HF := toHid hself
  clear F hst hst2 hap hself h2 hE
  have hk0 : (0 : Int) ≤ (a.length : Int) := Int.natCast_nonneg _
  go_wp2
  go_ret
  have hne : g ≠ br := fun e => HX.out (by simp [Value.ownBlock, e])
  have hn2 : n = (a ++ ⟨x.key, x.size, on⟩ :: b).length := by rw [← HN.out]; simp
  refine ⟨rfl, ⟨(heap_setCell_ne _ _ _ _ _ (fun e => hne e.symm)).trans HF.out, ?_, HX.out⟩, (hE2.mono (fun _ x => x.elim)).setCell _ _ (fun _ => .inr rfl) _⟩
  have := HS.out
  show World.ownsRow _ 0 55 6 _ (a ++ ⟨x.key, x.size, on⟩ :: b).length _
  rw [← hn2]; exact this

set_option maxHeartbeats 1000000 in
theorem rdrop_pinned {w : World} {br : Nat} {B : Int} {v : Value} {a b : List Kept} {x : Kept} (h : RRep w br B v (a ++ x :: b)) (o : Own) (hx : x.key = o) (ha : ∀ y ∈ a, y.key ≠ o) (hlen : (a ++ x :: b).length ≤ 1000000) (hp : x.pinned = true) :
    Calls Try.prog 33 #[ptr br, o.val] w fun e w' => e = .returned (.int .i64 51) ∧ Ext Nope w w' := by
  have F := rfind_hit (h.alloc (.cells (ownCells o) 34)) o hx ha hlen
  obtain ⟨_, hnil⟩ | ⟨g, cap, hv, hcap, hmax⟩ := h.shape
  · simp at hnil
  have hal : a.length < (a ++ x :: b).length := by simp
  obtain ⟨n, HN⟩ : ∃ n, Hid ((a ++ x :: b).length = n) := ⟨_, rfl⟩
  rw [HN.out] at hv hcap hlen hal
  subst hv
  unfold maxLen at hmax
  go_enter Try.func33, Try.ntmps33
  go_wp2_with fail
  refine F.mono ?_
  rintro e w2 ⟨rfl, hE⟩
  have h2 := (h.alloc (.cells (ownCells o) 34)).ext hE (fun x => x) (fun _ _ x => x)
  have hE2 := ext0 ((Ext.refl Nope w).alloc (.cells (ownCells o) 34)) hE
  have c2 := h2.c2
  obtain ⟨_, _, _, _, _, y5⟩ := kept_cells h2.list
  rw [hp] at y5
  clear F h2 hE
  have hk0 : (0 : Int) ≤ (a.length : Int) := Int.natCast_nonneg _
  go_wp2
  go_ret
  exact ⟨rfl, hE2⟩

/-- A new list in a reference memory. -/
theorem RRep.relist {w w2 : World} {br : Nat} {B : Int} {v u : Value} {xs ys : List Kept} (h : RRep w br B v xs) (he : Ext Nope w w2) (hu : KeptAt w2 w.heap.size u ys) :
    RRep (w2.setCell ⟨br, 2, none⟩ u) br B u ys ∧ Ext (RFoot br v) w (w2.setCell ⟨br, 2, none⟩ u) := by
  have hlt := lt_of_heap h.self
  have hb : ∀ k, u.ownBlock = some k → w.heap.size ≤ k := fun k hk => (hu.lt k hk).1
  have hs := (he.block br hlt (fun x => x)).trans h.self
  refine ⟨⟨by rw [show (⟨br, 2, none⟩ : Addr) = at_ br 2 from rfl, heap_setCell_eq _ _ _ _ _ _ _ hs]; rfl, ?_, fun e => by have := hb br e; omega⟩, (he.mono (fun _ x => x.elim)).setCell _ _ (fun _ => .inl rfl) _⟩
  obtain ⟨h1, h2⟩ := hu
  refine ⟨h1, h2.imp id ?_⟩
  rintro ⟨g, cap, cur, hv, hg, hh, rest⟩
  exact ⟨g, cap, cur, hv, Nat.zero_le _, (heap_setCell_ne _ _ _ _ _ (by omega)).trans hh, rest⟩

set_option maxHeartbeats 1000000 in
theorem rdrop_hit {w : World} {br : Nat} {B : Int} {v : Value} {a b : List Kept} {x : Kept} (h : RRep w br B v (a ++ x :: b)) (o : Own) (hx : x.key = o) (ha : ∀ y ∈ a, y.key ≠ o) (hlen : (a ++ x :: b).length ≤ 1000000) (hp : x.pinned = false) :
    Calls Try.prog 33 #[ptr br, o.val] w fun e w' => e = .returned (.int .i64 0) ∧ ∃ u, RRep w' br B u (a ++ b) ∧ Ext (RFoot br v) w w' ∧ ∀ k, u.ownBlock = some k → w.heap.size ≤ k := by
  have F := rfind_hit (h.alloc (.cells (ownCells o) 34)) o hx ha hlen
  obtain ⟨_, hnil⟩ | ⟨g, cap, hv, hcap, hmax⟩ := h.shape
  · simp at hnil
  have hal : a.length < (a ++ x :: b).length := by simp
  obtain ⟨n, HN⟩ : ∃ n, Hid ((a ++ x :: b).length = n) := ⟨_, rfl⟩
  rw [HN.out] at hv hcap hlen hal
  subst hv
  unfold maxLen at hmax
  go_enter Try.func33, Try.ntmps33
  go_wp2_with fail
  refine F.mono ?_
  rintro e w2 ⟨rfl, hE⟩
  have h2 := (h.alloc (.cells (ownCells o) 34)).ext hE (fun x => x) (fun _ _ x => x)
  have hE2 := ext0 ((Ext.refl Nope w).alloc (.cells (ownCells o) 34)) hE
  have c2 := h2.c2
  obtain ⟨_, _, _, _, _, y5⟩ := kept_cells h2.list
  rw [hp] at y5
  have W := without_walk br g n cap a.length a b x w2 c2 h2.list (by rw [← HN.out]; simp; omega) rfl hcap hlen (by omega)
  clear F hE
  have hk0 : (0 : Int) ≤ (a.length : Int) := Int.natCast_nonneg _
  go_wp2_with fail
  refine W.mono ?_
  rintro e w3 ⟨u, rfl, hk3, hE3⟩
  obtain ⟨R1, R2⟩ := h2.relist hE3 hk3
  have hsz := hE2.size
  have HR : Hid (RRep (w3.setCell ⟨br, 2, none⟩ u) br B u (a ++ b) ∧ Ext (RFoot br (.slice (some ⟨g, 0, none⟩) n cap)) w (w3.setCell ⟨br, 2, none⟩ u) ∧ ∀ k, u.ownBlock = some k → w.heap.size ≤ k) :=
    ⟨R1, ext1 hE2 R2, fun k hk => Nat.le_trans hsz (hk3.lt k hk).1⟩
  have hs3 := (hE3.block br (lt_of_heap h2.self) (fun x => x)).trans h2.self
  have f2 : w3.frozen? ⟨br, 2, none⟩ = false := free_of_blk hs3 2
  have d2 : w3.cell? ⟨br, 2, none⟩ = some (.slice (some ⟨g, 0, none⟩) n cap) := by rw [show (⟨br, 2, none⟩ : Addr) = at_ br 2 from rfl, cell_of_blk hs3]; rfl
  have hub : ∃ a l c, u = .slice a l c := by
    obtain ⟨_, ⟨hv, _⟩ | ⟨g, cap, cur, hv, _⟩⟩ := hk3
    · exact ⟨_, _, _, hv⟩
    · exact ⟨_, _, _, hv⟩
  clear W hk3 R1 R2 h2 hs3 hE3 y5 c2
  obtain ⟨ua, ul, uc, rfl⟩ := hub
  go_wp2
  go_ret
  exact ⟨rfl, _, HR.out⟩

end Go.Proofs.Ytkloaadaicklfaa
