/-
  The walks of Drop and of what it calls.
-/
import Derived.Test.YtkloaadaicklfaaW4
import Derived.LaidEql
import Derived.Deep.LoopGhost
namespace Go.Proofs.Ytkloaadaicklfaa
open Go.RowKit

theorem ptr_neq_same (w : World) (a : Nat) : (binOp .neq 62 (ptr a) (ptr a)).run Try.prog w = .ok (.bool false) w := by
  have h : ∀ d : Nat, (Op.equalIn (d + 1) 62 (ptr a) (ptr a)).run Try.prog w = .ok true w := fun d => by
    have hs : (sizeOf 78).run Try.prog w = .ok 8 w := by kernel_rfl
    simp [Op.equalIn, run_underlying Try.underlying62, hs, run_sameAddr_same]
  simp only [binOp]
  simp [Op.equal, Op.maxDepth, h 9999]
theorem ptr_neq_other {w : World} {a b n m : Nat} {T U : TypeId} (hne : a ≠ b) (ha : Row w a n T) (hb : Row w b m U) : (binOp .neq 62 (ptr a) (ptr b)).run Try.prog w = .ok (.bool true) w := by
  obtain ⟨ca, ha, _⟩ := ha
  obtain ⟨cb, hb, _⟩ := hb
  have h : ∀ d : Nat, (Op.equalIn (d + 1) 62 (ptr a) (ptr b)).run Try.prog w = .ok false w := fun d => by
    have hs : (sizeOf 78).run Try.prog w = .ok 8 w := by kernel_rfl
    simp [Op.equalIn, run_underlying Try.underlying62, hs, run_sameAddr_other w (a := ⟨a, 0, none⟩) (b := ⟨b, 0, none⟩) (by simp []) ha hb]
  simp only [binOp]
  simp [Op.equal, Op.maxDepth, h 9999]

/-- The world behind 'Pin' of an element that is pinned otherwise. -/
def pinW (w : World) (be bm : Nat) (q s : Int) (on : Bool) : World :=
  if on then (w.setCell (at_ be 5) (.bool on)).setCell (at_ bm 2) (.int .i64 (q + s))
  else ((w.setCell (at_ be 5) (.bool on)).setCell (at_ bm 2) (.int .i64 (q + s))).setCell (at_ bm 2) (.int .i64 (q + s - 2 * s))

set_option maxHeartbeats 1000000 in
theorem pin_walk {w : World} {bm bh bk : Nat} {B : Int} {es : List (Nat × Kept)} (h : MRep w bm bh bk B es) (hB : Bounds B es) (p : Nat × Kept) (hp : p ∈ es) (o : Own) (ho : p.2.key = o) (on : Bool) (q : Int) (HQ : Hid (pinnedOf (kepts es) = q)) (hq : 0 ≤ q ∧ q ≤ 1073741824) :
    Calls Try.prog 15 #[ptr bm, o.val, .bool on] w fun e w' => e = .returned (.int .i64 0) ∧
      ∃ w2 n, Ext Nope w w2 ∧ MRep w2 bm bh bk B es ∧ w' = (if p.2.pinned = on then w2 else pinW w2 p.1 bm q p.2.size on).drewN n := by
  have W := find_hit (h.alloc (.cells (ownCells o) 34)) p hp o ho
  obtain ⟨a1, a2, a3, a4, a5⟩ := h.apart
  have hne : p.1 ≠ bm := a4 p hp
  have hne' : bm ≠ p.1 := fun e => hne e.symm
  have hs := hB.size p hp
  obtain ⟨q1, q2⟩ := hq
  obtain ⟨be, key, size, pinned⟩ := p
  cases pinned <;> cases on
  all_goals
    go_enter Try.func15, Try.ntmps15
    go_wp2_with fail
    refine W.mono ?_
    rintro e w2 ⟨rfl, hx⟩
    have h2 := (h.alloc (.cells (ownCells o) 34)).ext hx (fun _ _ x => x)
    have hxx := ext0 ((Ext.refl Nope w).alloc (.cells (ownCells o) 34)) hx
    clear hx
    obtain ⟨_, _, _, _, e4, e5⟩ := h2.ring.vals _ hp
    have c2 : w2.cell? ⟨bm, 2, none⟩ = some (.int .i64 q) := by rw [show (⟨bm, 2, none⟩ : Addr) = at_ bm 2 from rfl, cell_of_blk h2.self, ← HQ.out]; rfl
    have f2 : w2.frozen? ⟨bm, 2, none⟩ = false := free_of_blk h2.self 2
    have f5 : w2.frozen? ⟨be, 5, none⟩ = false := (h2.ring.rows _ (List.mem_cons_of_mem _ (List.mem_map_of_mem hp))).free 5
    simp only at e4 e5 hs hne hne'
    go_wp2
    try (go_region; go_wp2)
    try (go_region; go_wp2)
    go_ret
    refine ⟨rfl, w2, hxx, h2, ?_⟩
  · exact ⟨0, rfl⟩
  · exact ⟨1, rfl⟩
  · exact ⟨2, rfl⟩
  · exact ⟨0, rfl⟩

theorem pinW_heap {w : World} {be bm b : Nat} {q s : Int} {on : Bool} (h1 : b ≠ be) (h2 : b ≠ bm) : (pinW w be bm q s on).heap[b]? = w.heap[b]? := by
  unfold pinW
  split
  · rw [heap_setCell_ne _ _ _ _ _ h2, heap_setCell_ne _ _ _ _ _ h1]
  · rw [heap_setCell_ne _ _ _ _ _ h2, heap_setCell_ne _ _ _ _ _ h2, heap_setCell_ne _ _ _ _ _ h1]

theorem pinned_bounds : ∀ x : List (Nat × Kept), (∀ p ∈ x, 0 ≤ p.2.size ∧ p.2.size ≤ 65536) → 0 ≤ pinnedOf (kepts x) ∧ pinnedOf (kepts x) ≤ usedOf (kepts x) := by
  intro x
  induction x with
  | nil => intro _; simp [pinnedOf, usedOf]
  | cons y x ih =>
    intro hx
    have h1 := ih fun p hp => hx p (List.mem_cons_of_mem _ hp)
    have h2 := hx y (by simp)
    simp only [kepts, List.map_cons, pinnedOf_cons, usedOf_cons, pinOf] at h1 ⊢
    split <;> omega

def setPin (p : Nat × Kept) (on : Bool) : Nat × Kept := (p.1, ⟨p.2.key, p.2.size, on⟩)

theorem MRep.repin {w : World} {bm bh bk : Nat} {B : Int} {l r : List (Nat × Kept)} {p : Nat × Kept} (h : MRep w bm bh bk B (l ++ p :: r)) (on : Bool) (hne : p.2.pinned ≠ on) :
    MRep (pinW w p.1 bm (pinnedOf (kepts (l ++ p :: r))) p.2.size on) bm bh bk B (l ++ setPin p on :: r) ∧ Ext (Foot bm bh bk (l ++ p :: r)) w (pinW w p.1 bm (pinnedOf (kepts (l ++ p :: r))) p.2.size on) := by
  obtain ⟨a1, a2, a3, a4, a5⟩ := h.apart
  have hpm : p.1 ≠ bm := a4 p (by simp)
  have hpk : p.1 ≠ bk := a5 p (by simp)
  have hpp : p.1 ∈ bh :: blks (l ++ p :: r) := by simp [blks]
  have hblks : blks (l ++ setPin p on :: r) = blks (l ++ p :: r) := by simp [blks, setPin]
  have hkeys : keysOf (l ++ setPin p on :: r) = keysOf (l ++ p :: r) := by simp [keysOf, setPin]
  have hnd := h.ring.nodup
  have hpin : pinnedOf (kepts (l ++ setPin p on :: r)) = if on then pinnedOf (kepts (l ++ p :: r)) + p.2.size else pinnedOf (kepts (l ++ p :: r)) + p.2.size - 2 * p.2.size := by
    simp only [kepts, List.map_append, List.map_cons, pinnedOf_append, pinnedOf_cons, setPin, pinOf]
    cases on <;> cases hx : p.2.pinned <;> simp_all <;> omega
  have hused : usedOf (kepts (l ++ setPin p on :: r)) = usedOf (kepts (l ++ p :: r)) := by
    simp [kepts, usedOf_append, usedOf_cons, setPin]
  have hnl : ∀ q ∈ l ++ r, q.1 ≠ p.1 := by
    intro q hq e
    have : (p.1 :: (bh :: (l.map (·.1) ++ r.map (·.1)))).Nodup := by
      refine (List.Perm.nodup_iff ?_).1 hnd
      simp only [blks, List.map_append, List.map_cons]
      refine List.Perm.trans (List.Perm.cons _ (List.perm_middle)) ?_
      exact List.Perm.swap _ _ _
    refine (List.nodup_cons.1 this).1 (List.mem_cons_of_mem _ ?_)
    rw [← e, ← List.map_append]
    exact List.mem_map_of_mem hq
  have hc : ∀ b o, (b ≠ p.1 ∨ o ≠ 5) → b ≠ bm → (pinW w p.1 bm (pinnedOf (kepts (l ++ p :: r))) p.2.size on).cell? (at_ b o) = w.cell? (at_ b o) := by
    intro b o h1 h2
    have h1' : p.1 ≠ b ∨ 5 ≠ o := h1.imp (fun e => fun x => e x.symm) (fun e => fun x => e x.symm)
    unfold pinW
    split
    · rw [cell_setCell_ne _ _ _ _ _ _ (.inl (fun e => h2 e.symm)), cell_setCell_ne _ _ _ _ _ _ h1']
    · rw [cell_setCell_ne _ _ _ _ _ _ (.inl (fun e => h2 e.symm)), cell_setCell_ne _ _ _ _ _ _ (.inl (fun e => h2 e.symm)), cell_setCell_ne _ _ _ _ _ _ h1']
  have hrow : ∀ b, Row w b 8 78 → Row (pinW w p.1 bm (pinnedOf (kepts (l ++ p :: r))) p.2.size on) b 8 78 := by
    intro b hb
    unfold pinW
    split
    · exact (hb.setCell _ _ _).setCell _ _ _
    · exact ((hb.setCell _ _ _).setCell _ _ _).setCell _ _ _
  refine ⟨⟨⟨a1, a2, a3, fun q hq => ?_, fun q hq => ?_⟩, ?_, ⟨hblks ▸ hnd, ?_, ?_, ?_⟩, ?_, hkeys ▸ h.keys⟩, ⟨?_, ?_, ?_, ?_, ?_⟩⟩
  · simp only [List.mem_append, List.mem_cons] at hq
    rcases hq with hq | rfl | hq
    · exact a4 q (by simp [hq])
    · exact hpm
    · exact a4 q (by simp [hq])
  · simp only [List.mem_append, List.mem_cons] at hq
    rcases hq with hq | rfl | hq
    · exact a5 q (by simp [hq])
    · exact hpk
    · exact a5 q (by simp [hq])
  · rw [hused, hpin]
    have e1 := (heap_setCell_ne w p.1 5 bm (.bool on) (fun e => hpm e.symm)).trans h.self
    unfold pinW
    cases on
    · simp only [Bool.false_eq_true, if_false]
      rw [heap_setCell_eq _ _ _ _ _ _ _ (heap_setCell_eq _ _ _ _ _ _ _ e1)]; rfl
    · simp only [if_true]
      rw [heap_setCell_eq _ _ _ _ _ _ _ e1]; rfl
  · intro b hb
    rw [hblks] at hb
    exact hrow b (h.ring.rows b hb)
  · rw [hblks]
    have hnb : ∀ a, a ∈ bh :: blks (l ++ p :: r) → a ≠ bm := by
      intro b hb
      rcases List.mem_cons.1 hb with rfl | hb
      · exact fun e => a2 e.symm
      · obtain ⟨y, hy, rfl⟩ := List.mem_map.1 hb
        exact a4 y hy
    refine h.ring.links.kept (fun a ha => hc a 7 (.inr (by omega)) (hnb a ?_)) (fun a ha => hc a 6 (.inr (by omega)) (hnb a ?_))
    · rw [show bh :: (blks (l ++ p :: r) ++ [bh]) = (bh :: blks (l ++ p :: r)) ++ [bh] from rfl, List.dropLast_concat] at ha
      exact ha
    · simp only [List.tail_cons, List.mem_append, List.mem_singleton] at ha
      rcases ha with ha | rfl
      · exact List.mem_cons_of_mem _ (by simpa [blks] using ha)
      · simp
  · intro q hq
    have hmem : q = setPin p on ∨ q ∈ l ++ r := by
      simp only [List.mem_append, List.mem_cons] at hq ⊢
      rcases hq with hq | rfl | hq
      · exact .inr (.inl hq)
      · exact .inl rfl
      · exact .inr (.inr hq)
    rcases hmem with rfl | hm
    · obtain ⟨v0, v1, v2, v3, v4, v5⟩ := h.ring.vals p (by simp)
      refine ⟨(hc _ _ (.inr (by omega)) hpm).trans v0, (hc _ _ (.inr (by omega)) hpm).trans v1, (hc _ _ (.inr (by omega)) hpm).trans v2, (hc _ _ (.inr (by omega)) hpm).trans v3, (hc _ _ (.inr (by omega)) hpm).trans v4, ?_⟩
      have hr := h.ring.rows p.1 hpp
      show (pinW w p.1 bm _ p.2.size on).cell? (at_ p.1 5) = some (.bool on)
      unfold pinW
      split
      · rw [cell_setCell_ne _ _ _ _ _ _ (.inl (fun e => hpm e.symm))]; exact hr.cell_setCell (by omega) _
      · rw [cell_setCell_ne _ _ _ _ _ _ (.inl (fun e => hpm e.symm)), cell_setCell_ne _ _ _ _ _ _ (.inl (fun e => hpm e.symm))]; exact hr.cell_setCell (by omega) _
    · have hq' : q ∈ l ++ p :: r := by
        simp only [List.mem_append, List.mem_cons] at hm ⊢
        rcases hm with h | h <;> simp [h]
      exact (h.ring.vals q hq').of fun o ho => hc _ _ (.inl (hnl q hm)) (a4 q hq')
  · obtain ⟨m, h1, h2, h3⟩ := h.index
    refine ⟨m, h1.of (pinW_heap (fun e => hpk e.symm) (fun e => a1 e.symm)), h2, fun o v => (h3 o v).trans ?_⟩
    constructor
    · rintro ⟨q, hq, hx⟩
      simp only [List.mem_append, List.mem_cons] at hq
      rcases hq with hq | rfl | hq
      · exact ⟨q, by simp [hq], hx⟩
      · exact ⟨setPin q on, by simp, hx⟩
      · exact ⟨q, by simp [hq], hx⟩
    · rintro ⟨q, hq, hx⟩
      simp only [List.mem_append, List.mem_cons] at hq
      rcases hq with hq | rfl | hq
      · exact ⟨q, by simp [hq], hx⟩
      · exact ⟨p, by simp, hx⟩
      · exact ⟨q, by simp [hq], hx⟩
  · unfold pinW; split <;> rfl
  · unfold pinW; split <;> rfl
  · unfold pinW; split <;> rfl
  · unfold pinW; split <;> simp
  · intro b _ hb
    refine pinW_heap (fun e => hb ?_) (fun e => hb (.inl e))
    subst e
    exact .inr (.inr (.inr (by simp [blks])))

theorem pin_hit {w : World} {bm bh bk : Nat} {B : Int} {l r : List (Nat × Kept)} {p : Nat × Kept} (h : MRep w bm bh bk B (l ++ p :: r)) (hB : Bounds B (l ++ p :: r)) (o : Own) (ho : p.2.key = o) (on : Bool) :
    Calls Try.prog 15 #[ptr bm, o.val, .bool on] w fun e w' => e = .returned (.int .i64 0) ∧ MRep w' bm bh bk B (l ++ setPin p on :: r) ∧ Ext (Foot bm bh bk (l ++ p :: r)) w w' := by
  have hb := pinned_bounds _ hB.size
  have h1 := hB.used
  have h2 := hB.hi
  refine (pin_walk h hB p (by simp) o ho on _ rfl ⟨hb.1, by omega⟩).mono ?_
  rintro e w' ⟨rfl, w2, n, hx, hm, rfl⟩
  refine ⟨rfl, ?_⟩
  by_cases e : p.2.pinned = on
  · rw [if_pos e]
    have : setPin p on = p := by rw [← e]; rfl
    rw [this]
    exact ⟨hm.drewN n, (hx.mono (fun _ x => x.elim)).drewN n⟩
  · rw [if_neg e]
    obtain ⟨g1, g2⟩ := hm.repin on e
    exact ⟨g1.drewN n, ext1 hx (g2.drewN n)⟩

end Go.Proofs.Ytkloaadaicklfaa
