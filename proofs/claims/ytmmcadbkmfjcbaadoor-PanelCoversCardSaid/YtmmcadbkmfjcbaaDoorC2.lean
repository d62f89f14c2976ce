/-
  A loop over the pieces: what its rounds owe, and what lies behind it.
-/
import Derived.Test.YtmmcadbkmfjcbaaDoorC1
namespace Go.Proofs.YtmmcadbkmfjcbaaDoor
open Go.RowKit

theorem ext_put {S : Nat → Prop} {a b : World} (h : Ext S a b) (k : Nat) (o : Obj) (hk : k < a.heap.size → S k) : Ext S a (b.putObj k o) := h.setObj k o hk

/-- The law of a loop over an iterator that keeps a block of its own (the first that is new to it). -/
theorem wp_rangeOwn {gf : Nat} {g : Operand} {ps : Array Tmp} {assign body : Code} {Q : Exit → Act → World → Prop} {a : Act} {w : World} {lb : Array Value}
    (hg : a.eval g = .func (.func gf) #[] lb) (hps : ps.size = 1) (eg : ∀ args w, (callFunc gf args).run Tryd.prog w = .ok (.enter gf args) w)
    (B : Nat) (hB : B < w.heap.size) (I : List R → World → Prop) (F : List R)
    (hseq : ∀ (J : List R → World → Prop) (W1 : World), Ext Nope w W1 → W1.heap.size = w.heap.size + 2 →
      (∀ pre A A', J pre A → Ext (fun k => k = W1.heap.size) A A' → J pre A') →
      (∀ pre x W, J pre W → W1.heap.size < W.heap.size → pre.length ≤ 64 → YieldAt Fence.wide 2 Tryd.prog (w.heap.size + 1) #[x.val] W fun e W' => e = .returned (.bool true) ∧ J (pre ++ [x]) W' ∧ Ext (fun k => (k = B ∨ k = w.heap.size + 1) ∨ W1.heap.size < k) W W') →
      J [] W1 → Calls Tryd.prog gf (#[.func (.yield (w.heap.size + 1)) #[] #[]] ++ lb) W1 fun e w' => (∃ v, e = .returned v) ∧ J F w')
    (hI : ∀ pre A A', I pre A → Ext (fun k => k = w.heap.size + 1 ∨ k = w.heap.size + 2) A A' → I pre A')
    (h0 : ∀ W1, Ext Nope w W1 → W1.heap.size = w.heap.size + 2 → I [] W1)
    (hround : ∀ pre x W, I pre W → w.heap.size + 2 < W.heap.size → pre.length ≤ 64 → assign.wpIn (Fence.wide.inRound (w.heap.size + 1)) 2 Tryd.prog
      (Exit.then (fun a₁ w₁ => Ext Nope W w₁ ∧ ∀ w₂, Ext (fun k => k = w.heap.size + 1) W w₂ → w₁.heap.size ≤ w₂.heap.size → (∀ k, k ≠ w.heap.size + 1 → w₂.heap[k]? = w₁.heap[k]?) →
        body.wpIn (Fence.wide.inRound (w.heap.size + 1)) 2 Tryd.prog (fun e _ W' => e = .normal ∧ I (pre ++ [x]) W' ∧ Ext (fun k => k = B ∨ w.heap.size + 2 < k) w₂ W') a₁ w₂) (fun _ _ _ => False))
      { tmps := (ps.zip #[x.val]).foldl (fun t (p, v) => t.setIfInBounds p v) a.tmps, defers := [] } W)
    (hdone : ∀ W, I F W → W.heap[w.heap.size]? = some (.deferred (some [])) → Q .normal { a with defers := { target := .collected w.heap.size, args := #[] } :: a.defers } W) :
    (Code.rangeFunc g ps assign body).wp Tryd.prog Q a w := by
  refine (wpIn_wide (n := 4)).1 (wpIn_rangeFunc ?_)
  intro fn hfn
  obtain ⟨rec, hrec⟩ : ∃ rec : LoopState → Option Code → Loop, rec = fun st pe => { state := st, pending := pe, fn, tmps := a.tmps, params := ps, assign, body, defers := w.heap.size } := ⟨_, rfl⟩
  obtain ⟨W1, hW1⟩ : ∃ W1, (w.alloc (.deferred (some []))).alloc (.loop (rec .ready none)) = W1 := ⟨_, rfl⟩
  have hs1 : W1.heap.size = w.heap.size + 2 := by rw [← hW1]; simp
  have hL1 : W1.heap[w.heap.size + 1]? = some (.loop (rec .ready none)) := by rw [← hW1]; exact heap_alloc_at _ _ _ (by simp)
  have hK1 : W1.heap[w.heap.size]? = some (.deferred (some [])) := by rw [← hW1]; exact (heap_alloc_old _ _ _ (by simp)).trans (heap_alloc_new _ _)
  have hE1 : Ext Nope w W1 := by rw [← hW1]; exact ((Ext.refl _ _).alloc _).alloc _
  refine ⟨w.heap.size + 1, [{ target := .collected w.heap.size, args := #[] }], W1, { target := .fn (.func gf) lb, args := #[.func (.yield (w.heap.size + 1)) #[] #[]] }, W1, gf,
    #[.func (.yield (w.heap.size + 1)) #[] #[]] ++ lb, W1, ?_, ?_, fun _ _ => trivial, ?_, fun _ => by omega, ?_⟩
  · rw [← hW1, hrec]; exact run_enterLoop_outer _ _ _ _ _
  · simp only [resolve, hg]
    simp [go_sem]
  · simp [invoke, go_sem, eg]
  · refine callsIn_wide.2 ((hseq (fun pre W => I pre W ∧ W.heap[w.heap.size + 1]? = some (.loop (rec .ready none)) ∧ W.heap[w.heap.size]? = some (.deferred (some []))) W1 hE1 hs1 ?_ ?_ ⟨h0 W1 hE1 hs1, hL1, hK1⟩).mono ?_)
    · rintro pre A A' ⟨h1, h2, h3⟩ he
      exact ⟨hI pre A A' h1 (he.mono (fun i hi => .inr (by omega))), (he.block _ (lt_of_heap h2) (by omega)).trans h2, (he.block _ (lt_of_heap h3) (by omega)).trans h3⟩
    · rintro pre x W ⟨hi, hl, hk⟩ hsz hlen
      have hy := run_yield (P := Tryd.prog) (args := #[x.val]) hl (by rw [hrec]; simp [hps])
      rw [hrec] at hy
      refine ⟨fn, _, assign, body, hy, roundIn_of_wpIn trivial (wpIn_mono (hround pre x W hi (by omega) hlen) ?_)⟩
      rintro e a₁ w₁ hp
      cases e with
      | normal =>
        obtain ⟨e1, hp⟩ := hp
        have hl1 := (e1.block _ (lt_of_heap hl) (fun z => z)).trans hl
        refine ⟨_, run_beginRound hl1 (by rw [hrec]), ?_⟩
        have hl2 : (w₁.putObj (w.heap.size + 1) (.loop { rec .ready none with state := .busy })).heap[w.heap.size + 1]? = some (.loop { rec .ready none with state := .busy }) := World.putObj_heap_same (lt_of_heap hl1)
        have hE2 : Ext (fun k => k = w.heap.size + 1) W (w₁.putObj (w.heap.size + 1) (.loop { rec .ready none with state := .busy })) := ext_put (e1.mono (fun _ z => z.elim)) _ _ (fun _ => rfl)
        refine wpIn_mono (hp _ hE2 (by simp [World.putObj]) (fun k hk => World.putObj_heap_other hk)) ?_
        rintro e a3 W3 ⟨rfl, hi3, hE3⟩
        have hl3 := (hE3.block _ (lt_of_heap hl2) (by omega)).trans hl2
        have hr := run_endRound (P := Tryd.prog) none hl3
        have hE4 := hE2.block _ (lt_of_heap hk) (by omega)
        have hk3 := (hE3.block _ (lt_of_heap (hE4.trans hk)) (by omega)).trans (hE4.trans hk)
        refine ⟨_, _, hr, rfl, ⟨?_, ?_, ?_⟩, ?_⟩
        · exact hI _ _ _ hi3 (ext_put (Ext.refl _ _) _ _ (fun _ => .inl rfl))
        · rw [World.putObj_heap_same (lt_of_heap hl3), hrec]; rfl
        · exact (World.putObj_heap_other (by omega)).trans hk3
        · refine ext_put ?_ _ _ (fun _ => .inl (.inr rfl))
          refine Ext.trans (hE2.mono (fun i hi => .inl (.inr hi))) hE3 (fun i _ z => ?_)
          rcases z with z | z
          · exact .inl (.inl z)
          · exact .inr (by omega)
      | exit id => exact hp.elim
      | goto t => exact hp.elim
      | ret => exact hp.elim
      | panic chain => exact hp.elim
      | outgrown => exact hp.elim
    · rintro e W2 ⟨⟨v, rfl⟩, hi, hl, hk⟩
      exact ⟨none, _, by have := run_endLoop (P := Tryd.prog) hl (by rw [hrec]; simp); rw [hrec] at this; exact this, hdone _ (hI _ _ _ hi (ext_put (Ext.refl _ _) _ _ (fun _ => .inl rfl))) ((World.putObj_heap_other (by omega)).trans hk)⟩

end Go.Proofs.YtmmcadbkmfjcbaaDoor
