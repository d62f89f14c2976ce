/-
  The check of a glyph that has neither anchors nor deltas, whole.
-/
import Derived.Test.YtajebdpalnpjdaaGreatDoorM02
namespace Go.Proofs.YtajebdpalnpjdaaGreatDoor
open Go.RowKit
attribute [local go_sem] alloc_drewN setCell_drewN

/-- outline.anchors where there is none -/
theorem anchors_none (w : World) (a : Option Addr) (cap : Nat) : Calls Tryz.prog 86 #[.slice a 0 cap, .agg #[.int .i64 0, .int .i64 0, .int .i64 0]] w fun e w' => e = .returned (.bool true) ∧ Ext Nope w w' := by
  go_enter Tryz.func86, Tryz.ntmps86
  go_wp2_with fail
  go_loopw [9] (fun i wr => i = .int .i64 0 ∧ wr = w.alloc (.cells #[.int .i64 0, .int .i64 0, .int .i64 0] 43)) (fun _ _ => 0)
  case atStart => exact ⟨rfl, rfl⟩
  case round =>
    obtain ⟨rfl, rfl⟩ := hrel
    go_wp2
    go_ret
    exact ⟨rfl, (Ext.refl _ _).alloc _⟩
set_option maxHeartbeats 1000000 in
/-- outline.deltas where there is none -/
theorem deltas_none {A : Nat → Prop} {w : World} {cs : List Value} {g : GlyphA} (n : Int) (hp : Plain g) (hr : Rd A w cs (glyphD g)) (hb : sumL g.contours ≤ 1000000) : Calls Tryz.prog 87 #[.agg cs.toArray, .int .i64 n] w fun e w' => e = .returned (.bool true) ∧ Ext Nope w w' := by
  have HR := toHid hr
  have HP := toHid hp
  have HB := toHid hb
  obtain ⟨v0, v1, v6, v7, rfl, h0, h1, h5, h6, h7⟩ := hr.glyph
  rw [hp.deltas] at h6
  obtain ⟨a6, cap6, hv6, _⟩ := h6.len
  subst hv6
  simp only [List.map_nil, List.length_nil] at HR ⊢
  have o0 := store_one (P := Tryz.prog) (h0.one v0 (by simp))
  clear hr h0 h1 h5 h6 h7 hb hp
  go_enter Tryz.func87, Tryz.ntmps87
  go_wp2_with fail
  have e1 : Ext Nope w (w.alloc (.cells #[v0, v1, .int .i64 g.hang.cls, .int .i64 g.hang.x, .int .i64 g.hang.y, .int .i64 g.advance, .slice a6 0 cap6, v7] 47)) := (Ext.refl _ _).alloc _
  have HE := toHid e1
  clear e1
  refine (points_calls HP.out (HR.out.ext0 HE.out) HB.out).mono ?_
  rintro e w2 ⟨rfl, e2⟩
  have hb := (e2.block _ (lt_of_heap (heap_alloc_new w _)) (fun z => z)).trans (heap_alloc_new w (.cells #[v0, v1, .int .i64 g.hang.cls, .int .i64 g.hang.x, .int .i64 g.hang.y, .int .i64 g.advance, .slice a6 0 cap6, v7] 47))
  have c6 : w2.cell? ⟨w.heap.size, 6, none⟩ = some (.slice a6 0 cap6) := by
    rw [show (⟨w.heap.size, 6, none⟩ : Addr) = at_ w.heap.size 6 from rfl, cell_of_blk hb]; rfl
  have H2 : Hid (Ext Nope w w2) := ext0 HE.out e2
  clear e2 hb
  go_wp2_with fail
  go_loopw [14] (fun i wr => i = .int .i64 0 ∧ wr = w2) (fun _ _ => 0)
  case atStart => exact ⟨rfl, rfl⟩
  case round =>
    obtain ⟨rfl, rfl⟩ := hrel
    go_wp2
    go_ret
    exact ⟨rfl, H2.out⟩
end Go.Proofs.YtajebdpalnpjdaaGreatDoor
