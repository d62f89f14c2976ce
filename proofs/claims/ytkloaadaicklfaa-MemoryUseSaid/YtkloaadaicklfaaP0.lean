/-
  What MemoryPlays computes: true, for every budget and acts.
-/
import Derived.Test.YtkloaadaicklfaaL3
import Derived.Test.YtkloaadaicklfaaS1
namespace Go.Proofs.Ytkloaadaicklfaa
open Go.RowKit
attribute [local go_sem] alloc_drewN setCell_drewN

theorem ActsAt.ext {w w' : World} {a : Option Addr} {len : Nat} (h : ActsAt w a len) (e : Ext Nope w w') : ActsAt w' a len := by
  obtain h | ⟨b, off, rfl, hb, hc⟩ := h
  · exact .inl h
  · refine .inr ⟨b, off, rfl, Nat.lt_of_lt_of_le hb e.size, fun k hk => ?_⟩
    obtain ⟨wh, n, s, h1, h2, h3, c0, c1, c2⟩ := hc k hk
    have hbk := e.block b hb (fun z => z)
    exact ⟨wh, n, s, h1, h2, h3, (World.cell?_of_block (w := w) (a := ⟨b, off + k * 3, none⟩) hbk).trans c0, (World.cell?_of_block (w := w) (a := ⟨b, off + k * 3 + 1, none⟩) hbk).trans c1, (World.cell?_of_block (w := w) (a := ⟨b, off + k * 3 + 2, none⟩) hbk).trans c2⟩

theorem filled_any (B : Int) (w : World) (a : Option Addr) (len cap : Nat) (ha : ActsAt w a len) (hlen : len ≤ 9223372036854775807) :
    Calls Try.prog 11 #[.int .i64 B, .slice a len cap] w fun e w' => ∃ p q, e = .returned (.tuple #[p, q, .bool true]) ∧ Ext Nope w w' := by
  by_cases h : 0 ≤ B ∧ B ≤ 1073741824
  · refine (filled_calls B h.1 h.2 w a len cap ha hlen).mono ?_
    rintro e w' ⟨bm, br, xs, rfl, hB, _⟩
    exact ⟨_, _, rfl, hB.under⟩
  · refine (filled_bad B (by omega) w a len cap ha hlen).mono ?_
    rintro e w' ⟨rfl, he⟩
    exact ⟨_, _, rfl, he⟩

set_option maxHeartbeats 1000000 in
theorem plays_calls (B : Int) (w : World) (a : Option Addr) (len cap : Nat) (ha : ActsAt w a len) (hlen : len ≤ 9223372036854775807) :
    Calls Try.prog 3 #[.int .i64 B, .slice a len cap] w fun e w' => e = .returned (.bool true) ∧ Ext Nope w w' := by
  go_enter Try.func3, Try.ntmps3
  go_wp2_with fail
  refine (sanity_calls _).mono ?_
  rintro e w1 ⟨rfl, e1⟩
  have ha1 := ha.ext e1
  go_wp2_with fail
  refine (filled_any B w1 a len cap ha1 hlen).mono ?_
  rintro e w2 ⟨p, q, rfl, e2⟩
  have ha2 := ha1.ext e2
  have h2 := ext0 e1 e2
  clear ha ha1 e1 e2
  go_wp2_with fail
  refine (filled_any _ w2 a len cap ha2 hlen).mono ?_
  rintro e w3 ⟨p', q', rfl, e3⟩
  go_wp2
  go_ret
  exact ⟨rfl, ext0 h2 e3⟩

end Go.Proofs.Ytkloaadaicklfaa
