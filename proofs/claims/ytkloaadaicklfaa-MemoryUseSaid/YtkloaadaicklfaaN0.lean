/-
  What MemoryNil computes: nil and zero memories have nothing.
-/
import Derived.Test.YtkloaadaicklfaaS1
namespace Go.Proofs.Ytkloaadaicklfaa
open Go.RowKit
attribute [local go_sem] alloc_drewN setCell_drewN

theorem new_any (n : Int) (w : World) : Calls Try.prog 12 #[.int .i64 n] w fun e w' => ∃ p, e = .returned (.pointer p) ∧ p.isSome = (decide (0 ≤ n) && decide (n ≤ 1073741824)) ∧ Ext Nope w w' := by
  by_cases h : 0 ≤ n ∧ n ≤ 1073741824
  · refine (mnew_new n w h.1 h.2).mono ?_
    rintro e w' ⟨bm, rfl, F, _, _, E⟩
    exact ⟨_, rfl, by simp [h.1, h.2], E⟩
  · refine (new_bad n w (by omega)).mono ?_
    rintro e w' ⟨rfl, rfl⟩
    refine ⟨_, rfl, ?_, Ext.refl _ _⟩
    by_cases h0 : 0 ≤ n
    · have : ¬ n ≤ 1073741824 := fun h1 => h ⟨h0, h1⟩
      simp [this]
    · simp [h0]

/-- What holds nothing. -/
structure NoMem (w : World) (m : Value) (o : Own) (s : Int) : Prop where
  put : ∀ w', Ext Nope w w' → Calls Try.prog 17 #[m, o.val, .int .i64 s] w' fun e w'' => e = .returned (.tuple #[.slice none 0 0, .int .i64 1]) ∧ Ext Nope w' w''
  use : ∀ w', Ext Nope w w' → Calls Try.prog 14 #[m, o.val] w' fun e w'' => e = .returned (.bool false) ∧ Ext Nope w' w''
  pin : ∀ w' on, Ext Nope w w' → Calls Try.prog 15 #[m, o.val, .bool on] w' fun e w'' => e = .returned (.int .i64 5) ∧ Ext Nope w' w''
  drop : ∀ w', Ext Nope w w' → Calls Try.prog 16 #[m, o.val] w' fun e w'' => e = .returned (.int .i64 5) ∧ Ext Nope w' w''
  used : ∀ w', Ext Nope w w' → Calls Try.prog 19 #[m] w' fun e w'' => e = .returned (.int .i64 0) ∧ w' = w''
  list : ∀ w', Ext Nope w w' → Calls Try.prog 18 #[m] w' fun e w'' => e = .returned (.slice none 0 0) ∧ w' = w''
theorem noMem_nil (w : World) (o : Own) (s : Int) : NoMem w (.pointer none) o s :=
  ⟨fun w' _ => put_nil o s w', fun w' _ => use_none _ o w' (.nil w' o), fun w' on _ => pin_none _ o on w' (.nil w' o), fun w' _ => drop_none _ o w' (.nil w' o), fun w' _ => used_nil w', fun w' _ => list_nil w'⟩
theorem noMem_zero {w : World} {b : Nat} (h : ZRep w b) (o : Own) (s : Int) : NoMem w (ptr b) o s :=
  have z : ∀ w', Ext Nope w w' → ZRep w' b := fun w' e => h.ext e (fun z => z)
  ⟨fun w' e => put_zero b o s w' (z w' e), fun w' e => use_none _ o w' (.zero (z w' e) o), fun w' on e => pin_none _ o on w' (.zero (z w' e) o), fun w' e => drop_none _ o w' (.zero (z w' e) o), fun w' e => used_zero (z w' e), fun w' e => list_zero b w' (by rw [show (⟨b, 3, none⟩ : Addr) = at_ b 3 from rfl, cell_of_blk (z w' e)]; rfl)⟩
theorem NoMem.ext {w w' : World} {m : Value} {o : Own} {s : Int} (h : NoMem w m o s) (e : Ext Nope w w') : NoMem w' m o s :=
  ⟨fun x y => h.put x (ext0 e y), fun x y => h.use x (ext0 e y), fun x z y => h.pin x z (ext0 e y), fun x y => h.drop x (ext0 e y), fun x y => h.used x (ext0 e y), fun x y => h.list x (ext0 e y)⟩

abbrev zobj : Obj := .cells #[.int .i64 0, .int .i64 0, .int .i64 0, .pointer none, .map none] 65 (0, 0)
abbrev pobj (b : Nat) : Obj := .cells #[.pointer none, ptr b] 24 (0, 0)
theorem boxes (w : World) : ZRep ((w.alloc zobj).alloc (pobj w.heap.size)) w.heap.size ∧ ((w.alloc zobj).alloc (pobj w.heap.size)).heap[w.heap.size + 1]? = some (pobj w.heap.size) :=
  ⟨(heap_alloc_old _ _ _ (by simp)).trans (heap_alloc_new w _), by have := heap_alloc_new (w.alloc zobj) (pobj w.heap.size); simpa using this⟩

theorem cells4 {w w' : World} {b : Nat} {o : Own} (h : w.heap[b]? = some (.cells (ownCells o) 34 (0, 0))) (e : Ext Nope w w') :
    w'.cell? ⟨b, 0, none⟩ = some (.int .i64 o.f) ∧ w'.cell? ⟨b, 1, none⟩ = some (.int .i64 o.k) ∧ w'.cell? ⟨b, 2, none⟩ = some (.int .i64 o.n) ∧ w'.cell? ⟨b, 3, none⟩ = some (.int .i64 o.r) := by
  have h' := (e.block b (lt_of_heap h) (fun z => z)).trans h
  exact ⟨cell_of_blk h' 0, cell_of_blk h' 1, cell_of_blk h' 2, cell_of_blk h' 3⟩

set_option maxRecDepth 100000 in
set_option maxHeartbeats 4000000 in
theorem nil_calls (n : Int) (o : Own) (s : Int) (w : World) : Calls Try.prog 9 #[.int .i64 n, o.val, .int .i64 s] w fun e w' => e = .returned (.bool true) ∧ Ext Nope w w' := by
  go_enter Try.func9, Try.ntmps9
  go_wp2_with fail
  refine (sanity_calls _).mono ?_
  rintro e w1 ⟨rfl, E⟩
  have b1 : w1.heap[w.heap.size]? = some (.cells (ownCells o) 34 (0, 0)) := (E.block _ (by simp) (fun z => z)).trans (heap_alloc_new w _)
  have E1 : Ext Nope w w1 := ext0 ((Ext.refl _ _).alloc _) E
  clear E
  go_wp2_with fail
  refine (new_any n _).mono ?_
  rintro e w2 ⟨p, rfl, hp, E⟩
  have b2 : w2.heap[w.heap.size]? = some (.cells (ownCells o) 34 (0, 0)) := (E.block _ (lt_of_heap b1) (fun z => z)).trans b1
  have E2 : Ext Nope w w2 := ext0 E1 E
  clear E E1 b1
  go_wp2_with fail
  all_goals
    obtain ⟨Z, bs⟩ := boxes w2
    have b3 := ((((Ext.refl Nope w2).alloc zobj).alloc (pobj w2.heap.size)).block _ (lt_of_heap b2) (fun z => z)).trans b2
    have E3 := (E2.alloc zobj).alloc (pobj w2.heap.size)
    clear b2 E2 hp
    generalize w2.heap.size + 1 = S at *
    generalize w2.heap.size = Y at *
    generalize (w2.alloc zobj).alloc (pobj Y) = w3 at *
    have N0 := noMem_nil w3 o s
    have N1 := noMem_zero Z o s
    clear Z
    have hend : ∀ w', Ext Nope w3 w' → Ext Nope w w' := fun w' e => ext0 E3 e
    clear E3
    go_loopw [27] (fun i wr => ∃ k : Nat, i = .int .i64 k ∧ k ≤ 2 ∧ Ext Nope w3 wr) (fun i _ => 2 - (intOf i).toNat)
    case atStart => exact ⟨0, rfl, by omega, Ext.refl _ _⟩
    case round =>
      obtain ⟨k, rfl, hk, hEr⟩ := hrel
      by_cases hk2 : k < 2
      · obtain ⟨p, hp, NM⟩ : ∃ p, wr.cell? ⟨S, k, none⟩ = some (.pointer p) ∧ NoMem w3 (.pointer p) o s := by
          have h' := (hEr.block S (lt_of_heap bs) (fun z => z)).trans bs
          match k, hk2 with
          | 0, _ => exact ⟨none, cell_of_blk h' 0, N0⟩
          | 1, _ => exact ⟨some ⟨Y, 0, none⟩, cell_of_blk h' 1, N1⟩
        obtain ⟨c0, c1, c2, c3⟩ := cells4 b3 hEr
        clear N0 N1
        go_wp2_with fail
        refine (NM.put wr hEr).mono ?_
        rintro e wa ⟨rfl, E⟩
        have hEa := ext0 hEr E
        clear E hEr c0 c1 c2 c3
        obtain ⟨c0, c1, c2, c3⟩ := cells4 b3 hEa
        go_wp2_with fail
        refine (NM.use wa hEa).mono ?_
        rintro e wb ⟨rfl, E⟩
        have hEb := ext0 hEa E
        clear E hEa c0 c1 c2 c3
        obtain ⟨c0, c1, c2, c3⟩ := cells4 b3 hEb
        go_wp2_with fail
        refine (NM.pin wb true hEb).mono ?_
        rintro e wc ⟨rfl, E⟩
        have hEc := ext0 hEb E
        clear E hEb c0 c1 c2 c3
        obtain ⟨c0, c1, c2, c3⟩ := cells4 b3 hEc
        go_wp2_with fail
        refine (NM.drop wc hEc).mono ?_
        rintro e wd ⟨rfl, E⟩
        have hEd := ext0 hEc E
        clear E hEc c0 c1 c2 c3
        obtain ⟨c0, c1, c2, c3⟩ := cells4 b3 hEd
        go_wp2_with fail
        refine (NM.used wd hEd).mono ?_
        rintro e wz ⟨rfl, rfl⟩
        go_wp2_with fail
        refine (NM.list wd hEd).mono ?_
        rintro e wz ⟨rfl, rfl⟩
        go_wp2
        go_roundw
        case rel => exact ⟨k + 1, by go_num, by omega, hEd⟩
        case measure => simp [intOf]; omega
      · have : k = 2 := by omega
        subst this
        go_wp2
        go_ret
        exact ⟨rfl, hend _ hEr⟩
end Go.Proofs.Ytkloaadaicklfaa
