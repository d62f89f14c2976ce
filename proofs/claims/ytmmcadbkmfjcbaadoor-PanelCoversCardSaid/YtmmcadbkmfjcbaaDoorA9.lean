/-
  The first and the last bit of a number.
-/
import Derived.Test.YtmmcadbkmfjcbaaDoorA8
import Derived.Test.YtmmcadbkmfjcbaaDoorSh
import Derived.Shelf.Spec.TrailingZeros
namespace Go.Proofs.YtmmcadbkmfjcbaaDoor
open Go.RowKit

/-- The table of math/bits in its variable. -/
def Tab (w : World) : Prop := TabAt 0 Lib.deBruijn64tab w
theorem Tab.ext {w w' : World} {S : Nat → Prop} (h : Tab w) (e : Ext S w w') (hs : ¬ S 0) : Tab w' := fun j hj => by
  have h0 := h j hj
  exact (World.cell?_of_block (w := w) (a := ⟨0, j, none⟩) (e.block 0 (World.block_lt_of_cell? _ _ h0) hs)).trans h0
theorem Tab.ext0 {w w' : World} (h : Tab w) (e : Ext Nope w w') : Tab w' := h.ext e (fun z => z)

theorem len64_calls (x : Nat) (w : World) (h : x < 18446744073709551616) : Calls Tryd.prog 55 #[u64 x] w fun e w' => e = .returned (.int .i64 (Lib.bitLen x)) ∧ w = w' :=
  (Tryd.bits_Len64 (x : Int) w (by omega) (by omega)).mono fun _ _ h => ⟨by rw [h.1]; rfl, h.2.symm⟩

theorem tz_core (x k idx : Nat) (w : World) (hx0 : ((x : Int) == 0) = false)
    (key : IntKind.u64.wrap (bits BinOp.and IntKind.u64 (x : Int) (IntKind.u64.wrap (-(x : Int))) * 285870213051353865) / 288230376151711744 = (idx : Int))
    (hi : idx < 64) (hk : k < 64) (hcell : w.cell? ⟨0, idx, none⟩ = some (.int .u8 k)) :
    Calls Tryd.prog 54 #[u64 x] w fun e w' => e = .returned (.int .i64 k) ∧ w = w' := by
  go_enter Tryd.func54, Tryd.ntmps54
  go_wp2_with (simp only [key])
  go_ret
  exact ⟨rfl, rfl⟩
/-- math/bits.TrailingZeros64 -/
theorem tz64_calls (x : Nat) (w : World) (hx : x < 18446744073709551616) (hx0 : x ≠ 0) (hT : Tab w) : Calls Tryd.prog 54 #[u64 x] w fun e w' => e = .returned (.int .i64 (Lib.ctz 64 x)) ∧ w = w' := by
  obtain ⟨hlow, hk⟩ := Lib.lowest_bit 64 x hx0 hx
  obtain ⟨hi, htab⟩ := Lib.deBruijn64_at _ hk
  have hcell := hT _ hi
  rw [htab] at hcell
  exact tz_core x _ _ w (by simp; omega) (tz64_key x _ hx hx0 hlow) hi hk hcell

end Go.Proofs.YtmmcadbkmfjcbaaDoor
