/-
  What MemoryPinned computes: true.
-/
import Derived.Test.YtkloaadaicklfaaI0
import Derived.Test.YtkloaadaicklfaaP0
namespace Go.Proofs.Ytkloaadaicklfaa
open Go.RowKit
attribute [local go_sem] alloc_drewN setCell_drewN

theorem keysAt_len {w : World} {base : Nat} {a : Option Addr} {l c : Nat} {ks : List Own} (h : KeysAt w base (.slice a l c) ks) : l = ks.length := by
  obtain ⟨_, ⟨hv, h0⟩ | ⟨g, cap, cur, hv, _⟩⟩ := h
  · injection hv with h1 h2 h3
    rw [h2, h0]
  · injection hv with h1 h2 h3
theorem cells_of {w : World} {X : Nat} {x : Own} (h : w.heap[X]? = some (.cells (ownCells x) 34 (0, 0))) : w.cell? ⟨X, 0, none⟩ = some (.int .i64 x.f) ∧ w.cell? ⟨X, 1, none⟩ = some (.int .i64 x.k) ∧ w.cell? ⟨X, 2, none⟩ = some (.int .i64 x.n) ∧ w.cell? ⟨X, 3, none⟩ = some (.int .i64 x.r) :=
  ⟨cell_of_blk h 0, cell_of_blk h 1, cell_of_blk h 2, cell_of_blk h 3⟩
theorem keep9 {W wa wb : World} {A : Nat → Prop} {X Y b off k : Nat} {x o : Own} {s : Int} (e : Ext (Ours W A) wa wb) (hX : A X) (hY : A Y) (hb : b < W.heap.size) (lX : X < wa.heap.size) (lY : Y < wa.heap.size) (lb : b < wa.heap.size)
    (h : wa.cell? ⟨X, 0, none⟩ = some (.int .i64 x.f) ∧ wa.cell? ⟨X, 1, none⟩ = some (.int .i64 x.k) ∧ wa.cell? ⟨X, 2, none⟩ = some (.int .i64 x.n) ∧ wa.cell? ⟨X, 3, none⟩ = some (.int .i64 x.r) ∧ wa.cell? ⟨Y, 0, none⟩ = some (.int .i64 o.f) ∧ wa.cell? ⟨Y, 1, none⟩ = some (.int .i64 o.k) ∧ wa.cell? ⟨Y, 2, none⟩ = some (.int .i64 o.n) ∧ wa.cell? ⟨Y, 3, none⟩ = some (.int .i64 o.r) ∧ wa.cell? ⟨b, off + k * 3 + 2, none⟩ = some (.int .i64 s)) : wb.cell? ⟨X, 0, none⟩ = some (.int .i64 x.f) ∧ wb.cell? ⟨X, 1, none⟩ = some (.int .i64 x.k) ∧ wb.cell? ⟨X, 2, none⟩ = some (.int .i64 x.n) ∧ wb.cell? ⟨X, 3, none⟩ = some (.int .i64 x.r) ∧ wb.cell? ⟨Y, 0, none⟩ = some (.int .i64 o.f) ∧ wb.cell? ⟨Y, 1, none⟩ = some (.int .i64 o.k) ∧ wb.cell? ⟨Y, 2, none⟩ = some (.int .i64 o.n) ∧ wb.cell? ⟨Y, 3, none⟩ = some (.int .i64 o.r) ∧ wb.cell? ⟨b, off + k * 3 + 2, none⟩ = some (.int .i64 s) := by
  obtain ⟨x0, x1, x2, x3, o0, o1, o2, o3, z⟩ := h
  have hx := e.block X lX (fun z => z.2 hX)
  have hy := e.block Y lY (fun z => z.2 hY)
  have hz := e.block b lb (fun z => by have := z.1; omega)
  exact ⟨(World.cell?_of_block (w := wa) hx).trans x0, (World.cell?_of_block (w := wa) hx).trans x1, (World.cell?_of_block (w := wa) hx).trans x2, (World.cell?_of_block (w := wa) hx).trans x3,
    (World.cell?_of_block (w := wa) hy).trans o0, (World.cell?_of_block (w := wa) hy).trans o1, (World.cell?_of_block (w := wa) hy).trans o2, (World.cell?_of_block (w := wa) hy).trans o3, (World.cell?_of_block (w := wa) hz).trans z⟩

theorem keep5 {W wa wb : World} {A : Nat → Prop} {X b off k : Nat} {x : Own} {s : Int} (e : Ext (Ours W A) wa wb) (hX : A X) (hb : b < W.heap.size) (lX : X < wa.heap.size) (lb : b < wa.heap.size)
    (h : wa.cell? ⟨X, 0, none⟩ = some (.int .i64 x.f) ∧ wa.cell? ⟨X, 1, none⟩ = some (.int .i64 x.k) ∧ wa.cell? ⟨X, 2, none⟩ = some (.int .i64 x.n) ∧ wa.cell? ⟨X, 3, none⟩ = some (.int .i64 x.r) ∧ wa.cell? ⟨b, off + k * 3 + 2, none⟩ = some (.int .i64 s)) : wb.cell? ⟨X, 0, none⟩ = some (.int .i64 x.f) ∧ wb.cell? ⟨X, 1, none⟩ = some (.int .i64 x.k) ∧ wb.cell? ⟨X, 2, none⟩ = some (.int .i64 x.n) ∧ wb.cell? ⟨X, 3, none⟩ = some (.int .i64 x.r) ∧ wb.cell? ⟨b, off + k * 3 + 2, none⟩ = some (.int .i64 s) := by
  obtain ⟨x0, x1, x2, x3, z⟩ := h
  have hx := e.block X lX (fun z => z.2 hX)
  have hz := e.block b lb (fun z => by have := z.1; omega)
  exact ⟨(World.cell?_of_block (w := wa) hx).trans x0, (World.cell?_of_block (w := wa) hx).trans x1, (World.cell?_of_block (w := wa) hx).trans x2, (World.cell?_of_block (w := wa) hx).trans x3, (World.cell?_of_block (w := wa) hz).trans z⟩
theorem keysAt_shape {w : World} {base : Nat} {v : Value} {ks : List Own} (h : KeysAt w base v ks) : (v = .slice none 0 0 ∧ ks = []) ∨ ∃ g cap, v = .slice (some ⟨g, 0, none⟩) ks.length cap ∧ ks.length ≤ cap ∧ cap ≤ maxLen := by
  obtain ⟨_, ⟨hv, h0⟩ | ⟨g, cap, cur, hv, _, _, h1, h2, _⟩⟩ := h
  · exact .inl ⟨hv, List.eq_nil_of_length_eq_zero h0⟩
  · exact .inr ⟨g, cap, hv, h1, h2⟩
theorem toHid2 {p : Prop} (h : p) : Hid p := h
theorem acts_at {W wr : World} {a : Option Addr} {len k : Nat} (ha : ActsAt W a len) (e : Ext Nope W wr) (hk : k < len) : ∃ b off, a = some ⟨b, off, none⟩ ∧ b < W.heap.size ∧ b < wr.heap.size ∧ ∃ wh n s, (0 ≤ wh ∧ wh ≤ 255) ∧ (0 ≤ n ∧ n ≤ 255) ∧ (-9223372036854775808 ≤ s ∧ s ≤ 9223372036854775807) ∧
    wr.cell? ⟨b, off + k * 3, none⟩ = some (.int .u8 wh) ∧ wr.cell? ⟨b, off + k * 3 + 1, none⟩ = some (.int .u8 n) ∧ wr.cell? ⟨b, off + k * 3 + 2, none⟩ = some (.int .i64 s) := by
  have h9 := ha.ext e
  rcases ha with h0 | ⟨b', off', h1', h2', _⟩
  · omega
  rcases h9 with h0 | ⟨b, off, h1, h2, h3⟩
  · omega
  · refine ⟨b, off, h1, ?_, h2, h3 k hk⟩
    rw [h1'] at h1
    cases h1
    exact h2'
theorem act_cells {w w' : World} {b off : Nat} {wh n s : Int} (e : w'.heap[b]? = w.heap[b]?) (c0 : w.cell? ⟨b, off, none⟩ = some (.int .u8 wh)) (c1 : w.cell? ⟨b, off + 1, none⟩ = some (.int .u8 n)) (c2 : w.cell? ⟨b, off + 2, none⟩ = some (.int .i64 s)) :
    w'.cell? ⟨b, off, none⟩ = some (.int .u8 wh) ∧ w'.cell? ⟨b, off + 1, none⟩ = some (.int .u8 n) ∧ w'.cell? ⟨b, off + 2, none⟩ = some (.int .i64 s) :=
  ⟨(World.cell?_of_block (w := w) (a := ⟨b, off, none⟩) e).trans c0, (World.cell?_of_block (w := w) (a := ⟨b, off + 1, none⟩) e).trans c1, (World.cell?_of_block (w := w) (a := ⟨b, off + 2, none⟩) e).trans c2⟩

set_option maxRecDepth 100000 in
set_option maxHeartbeats 4000000 in
theorem pinned_calls (n : Int) (n0 : 0 ≤ n) (n1 : n ≤ 255) (f g : Int) (f0 : 0 ≤ f) (f1 : f ≤ 255) (g0 : 0 ≤ g) (g1 : g ≤ 255) (W : World) (a : Option Addr) (len cap : Nat) (ha : ActsAt W a len) (hlen : len ≤ 9223372036854775807) :
    Calls Try.prog 6 #[.int .u8 n, .slice a len cap, .agg #[.int .u8 f, .int .u8 g]] W fun e w' => e = .returned (.bool true) ∧ Ext Nope W w' := by
  have m0 : 0 ≤ n % 64 := by omega
  have m1 : n % 64 ≤ 1073741824 := by omega
  have m2 : 0 ≤ f % 9 := by omega
  have m3 : f % 9 ≤ 1000 := by omega
  have m4 : 0 ≤ g % 20 := by omega
  have m5 : g % 20 ≤ 65536 := by omega
  go_enter Try.func6, Try.ntmps6
  go_wp2_with fail
  refine (sanity_calls _).mono ?_
  rintro e w1 ⟨rfl, e1⟩
  have hb1 : w1.heap[W.heap.size]? = some (.cells #[.int .u8 f, .int .u8 g] 49 (0, 0)) := (e1.block _ (by simp) (fun z => z)).trans (heap_alloc_new W _)
  have E1 : Ext Nope W w1 := ext0 ((Ext.refl _ _).alloc _) e1
  clear e1
  go_wp2_with fail
  refine (map_new (n % 64) W w1 E1.size m0 m1).mono ?_
  rintro e w2 ⟨bm, rfl, hM, e2⟩
  have hb2 := (e2.block _ (lt_of_heap hb1) (fun z => z)).trans hb1
  have hbA : W.heap.size < w1.heap.size := lt_of_heap hb1
  have E2 := ext0 E1 e2
  clear hb1 E1 e2
  have c0 := cell_of_blk hb2 0
  have c1 := cell_of_blk hb2 1
  simp only [List.getElem?_toArray, List.getElem?_cons_zero, List.getElem?_cons_succ] at c0 c1
  go_wp2_with fail
  refine (key_calls (f % 9) _ m2 m3).mono ?_
  rintro e w3 ⟨rfl, e3⟩
  have hM3 := hM.also e3
  have hb3 := (e3.block _ (lt_of_heap hb2) (fun z => z)).trans hb2
  have E3 := ext0 E2 e3
  clear hM E2 e3 hb2 c0 c1
  have c0 := cell_of_blk hb3 0
  have c1 := cell_of_blk hb3 1
  simp only [List.getElem?_toArray, List.getElem?_cons_zero, List.getElem?_cons_succ] at c0 c1
  have hlt3 := lt_of_heap hb3
  go_wp2_with fail
  have K4 : (w3.alloc (.cells (ownCells (keyA (f % 9))) 34 (0, 0))).heap[w3.heap.size]? = some (.cells (ownCells (keyA (f % 9))) 34 (0, 0)) := heap_alloc_new _ _
  have hM4 := hM3.also ((Ext.refl Nope w3).alloc (.cells (ownCells (keyA (f % 9))) 34 (0, 0)))
  have hYA : Also (Also (fun b => b < w1.heap.size) w2 w3) w3 (w3.alloc (.cells (ownCells (keyA (f % 9))) 34 (0, 0))) w3.heap.size := .inr ⟨Nat.le_refl _, by simp⟩
  have E4 : Ext Nope W (w3.alloc (.cells (ownCells (keyA (f % 9))) 34 (0, 0))) := E3.alloc _
  clear hM3 hb3 c0 c1 E3 hbA hlt3
  generalize Also (Also (fun b => b < w1.heap.size) w2 w3) w3 (w3.alloc (.cells (ownCells (keyA (f % 9))) 34 (0, 0))) = A at *
  generalize w3.alloc (.cells (ownCells (keyA (f % 9))) 34 (0, 0)) = w4 at *
  generalize w3.heap.size = Y at *
  generalize keyA (f % 9) = o at *
  refine (map_put hM4 (by simp) o (g % 20)).mono ?_
  rintro e w5 ⟨v, rfl, _, hM5, e5⟩
  have E5 := ours_end E4 e5
  have K5 := ours_block e5 hYA K4
  obtain ⟨c0, c1, c2, c3⟩ := key_box K5 rfl
  clear hM4 e5 E4 K4
  rcases putA_nil (B := n % 64) o m4 m5 with ⟨hf, hp⟩ | ⟨hf, hp⟩
  · rw [hp] at hM5 ⊢
    clear hp
    go_wp2_with fail
    refine (map_pin hM5 o true).mono ?_
    rw [show pinA [] o true = (5, []) from rfl]
    rintro e w6 ⟨rfl, hM6, e6⟩
    have E6 := ours_end E5 e6
    clear hM5 c0 c1 c2 c3 e6 E5 K5
    go_wp2_with fail
    refine (map_list hM6 (by simp)).mono ?_
    rintro e w7 ⟨u, rfl, hu, e7⟩
    have E7 := ext0 E6 e7
    obtain ⟨au, lu, cu, rfl⟩ := ownsRow_shape hu
    have hlu : lu = 0 := keysAt_len hu
    subst hlu
    clear hu hM6 e7 E6
    go_wp2
    go_ret
    exact ⟨rfl, E7⟩
  · rw [hp] at hM5 ⊢
    clear hp
    go_wp2_with fail
    refine (map_pin hM5 o true).mono ?_
    rw [pin_one]
    rintro e w6 ⟨rfl, hM6, e6⟩
    have E6 := ours_end E5 e6
    have K6 := ours_block e6 hYA K5
    clear hM5 c0 c1 c2 c3 e6 E5 K5
    have hPin : PinIn [⟨o, g % 20, true⟩] o := ⟨g % 20, by simp⟩
    go_wp2_with fail
    clear hf m4 m5 m2 m3
    go_loopw [12] (fun i wr => ∃ (k : Nat) (xs : List Kept), i = .int .i64 k ∧ k ≤ 60 ∧ k ≤ len ∧ xs.length ≤ k + 1 ∧ MAp W A wr bm (n % 64) xs ∧ PinIn xs o ∧ Ext (Ours W A) w6 wr) (fun i _ => 60 - (intOf i).toNat)
    case atStart => exact ⟨0, _, rfl, by omega, by omega, by simp, hM6, hPin, Ext.refl _ _⟩
    case round =>
      obtain ⟨k, xs, rfl, hk6, hkl, hxl, hM, hP, hE⟩ := hrel
      have E := ours_end E6 hE
      have KY := ours_block hE hYA K6
      by_cases hk : k < len ∧ k < 60
      · obtain ⟨hk1, hk2⟩ := hk
        obtain ⟨b, off, rfl, hbW0, hb, wh, nn, s, ⟨w0', w1'⟩, ⟨n0', n1'⟩, _, c0, c1, c2⟩ := acts_at ha E hk1
        have q0 : 0 ≤ nn % 9 := by omega
        have q1 : nn % 9 ≤ 1000 := by omega
        clear hM6 hPin K6 ha
        go_wp2_with fail
        refine (key_calls (nn % 9) _ q0 q1).mono ?_
        rintro e w7 ⟨rfl, e7⟩
        obtain ⟨d0, d1, d2⟩ := act_cells (e7.block b hb (fun z => z)) c0 c1 c2
        have hb7 : b < w7.heap.size := Nat.lt_of_lt_of_le hb e7.size
        clear c0 c1 c2
        have KX : (w7.alloc (.cells (ownCells (keyA (nn % 9))) 34 (0, 0))).heap[w7.heap.size]? = some (.cells (ownCells (keyA (nn % 9))) 34 (0, 0)) := heap_alloc_new _ _
        have e8 : Ext Nope wr (w7.alloc (.cells (ownCells (keyA (nn % 9))) 34 (0, 0))) := e7.alloc _
        have hM8 := hM.also e8
        have hXA : Also A wr (w7.alloc (.cells (ownCells (keyA (nn % 9))) 34 (0, 0))) w7.heap.size := .inr ⟨e7.size, by simp⟩
        have KY8 := (e8.block Y (lt_of_heap KY) (fun z => z)).trans KY
        have hbk8 : (w7.alloc (.cells (ownCells (keyA (nn % 9))) 34 (0, 0))).heap[b]? = w7.heap[b]? := heap_alloc_old _ _ _ hb7
        have hlt8 : w7.heap.size < (w7.alloc (.cells (ownCells (keyA (nn % 9))) 34 (0, 0))).heap.size := by simp
        have hbW : b < W.heap.size := hbW0
        have hlb8 : b < (w7.alloc (.cells (ownCells (keyA (nn % 9))) 34 (0, 0))).heap.size := by simp; omega
        have D2 : (w7.alloc (.cells (ownCells (keyA (nn % 9))) 34 (0, 0))).cell? ⟨b, off + k * 3 + 2, none⟩ = some (.int .i64 s) := (World.cell?_of_block (w := w7) hbk8).trans d2
        have E68 : Ext (Ours W A) w6 (w7.alloc (.cells (ownCells (keyA (nn % 9))) 34 (0, 0))) := hE.trans (ours_nope e8) (fun _ _ z => z)
        have heq : ∀ W', (Op.equalIn 10000 34 (.agg #[.int .i64 (keyA (nn % 9)).f, .int .i64 (keyA (nn % 9)).k, .int .i64 (keyA (nn % 9)).n, .int .i64 (keyA (nn % 9)).r]) (.agg #[.int .i64 o.f, .int .i64 o.k, .int .i64 o.n, .int .i64 o.r])).run Try.prog W' = .ok (decide (keyA (nn % 9) = o)) W' := fun W' => eq34 (keyA (nn % 9)) o W'
        clear hM KY e7 e8 hE E hb
        by_cases h3 : wh % 6 = 3
        · have t3 : (wh % 6 == 3) = true := by simp [h3]
          clear h3
          go_wp2_with fail
          generalize w7.alloc (.cells (ownCells (keyA (nn % 9))) 34 (0, 0)) = w8 at *
          have hl9 := (useA_ok hM8.ok (keyA (nn % 9))).2
          have hP9 := pinIn_use hM8.ok hP (keyA (nn % 9))
          refine (map_use hM8 (keyA (nn % 9))).mono ?_
          rintro e w9 ⟨rfl, hM9, e9⟩
          have E69 := ours_trans E68 e9 (fun _ z => .inl z)
          clear hM8 KX KY8 D2 d0 d1 d2 heq e9 E68 hP
          go_wp2
          go_roundw
          case rel => exact ⟨k + 1, _, by go_num, by omega, by omega, by omega, hM9.weak (fun _ z => .inl z), hP9, E69⟩
          case measure => simp [intOf]; omega
        by_cases h4 : wh % 6 = 4
        · have t3 : (wh % 6 == 3) = false := by simp [h4]
          have t4 : (wh % 6 == 4) = true := by simp [h4]
          clear h3 h4
          go_wp2
          generalize w7.alloc (.cells (ownCells (keyA (nn % 9))) 34 (0, 0)) = w8 at *
          have hYA' : Also A wr w8 Y := .inl hYA
          have hY8 := lt_of_heap KY8
          have HM : ∀ w', Ext Nope w8 w' → MAp W (Also A wr w8) w' bm (n % 64) xs := fun w' e => hM8.ext0 e
          obtain ⟨x0, x1, x2, x3⟩ := cells_of KX
          obtain ⟨o0, o1, o2, o3⟩ := cells_of KY8
          generalize w7.heap.size = X at *
          clear d0 d1 d2
          by_cases hxo : keyA (nn % 9) = o
          · have hd : decide (keyA (nn % 9) = o) = true := by simp [hxo]
            simp only [hd] at heq
            clear hd
            clear hxo
            have hl9 := (pinA_ok hM8.ok (keyA (nn % 9)) true).2.1
            have hP9 := pinIn_pin hP (keyA (nn % 9)) true (fun _ => rfl)
            clear hM8
            refine wp_region_held_drew (S := (fun w' => w'.cell? ⟨X, 0, none⟩ = some (.int .i64 (keyA (nn % 9)).f) ∧ w'.cell? ⟨X, 1, none⟩ = some (.int .i64 (keyA (nn % 9)).k) ∧ w'.cell? ⟨X, 2, none⟩ = some (.int .i64 (keyA (nn % 9)).n) ∧ w'.cell? ⟨X, 3, none⟩ = some (.int .i64 (keyA (nn % 9)).r) ∧ w'.cell? ⟨Y, 0, none⟩ = some (.int .i64 o.f) ∧ w'.cell? ⟨Y, 1, none⟩ = some (.int .i64 o.k) ∧ w'.cell? ⟨Y, 2, none⟩ = some (.int .i64 o.n) ∧ w'.cell? ⟨Y, 3, none⟩ = some (.int .i64 o.r) ∧ w'.cell? ⟨b, off + k * 3 + 2, none⟩ = some (.int .i64 s))) (by kernel_rfl) (by go_keep) (fun hH => ?_)
            refine wpAnyH_take (i := 0) (v := (ptr bm)) rfl (by kernel_rfl) (by kernel_rfl) (by kernel_rfl) (fun _ _ _ h => h) (Or.inl ⟨by rfl, ?hy0⟩) hH ?_
            case hy0 => intro w' hSw; (try dsimp only at hSw); go_simp
            (try simp only [Act.put, List.setIfInBounds_toArray, List.set_cons_zero, List.set_cons_succ])
            refine wpAnyH_take (i := 1) (v := (.agg #[.int .i64 (keyA (nn % 9)).f, .int .i64 (keyA (nn % 9)).k, .int .i64 (keyA (nn % 9)).n, .int .i64 (keyA (nn % 9)).r])) rfl (by kernel_rfl) (by kernel_rfl) (by kernel_rfl) (fun _ _ _ h => h) (Or.inl ⟨by rfl, ?hy1⟩) hH ?_
            case hy1 => intro w' hSw; (try dsimp only at hSw); go_simp
            (try simp only [Act.put, List.setIfInBounds_toArray, List.set_cons_zero, List.set_cons_succ])
            refine wpAnyH_take (i := 2) (v := (.agg #[.int .i64 (keyA (nn % 9)).f, .int .i64 (keyA (nn % 9)).k, .int .i64 (keyA (nn % 9)).n, .int .i64 (keyA (nn % 9)).r])) rfl (by kernel_rfl) (by kernel_rfl) (by kernel_rfl) (fun _ _ _ h => h) (Or.inl ⟨by rfl, ?hy2⟩) hH ?_
            case hy2 => intro w' hSw; (try dsimp only at hSw); go_simp
            (try simp only [Act.put, List.setIfInBounds_toArray, List.set_cons_zero, List.set_cons_succ])
            refine wpAnyH_take (i := 3) (v := (.agg #[.int .i64 o.f, .int .i64 o.k, .int .i64 o.n, .int .i64 o.r])) rfl (by kernel_rfl) (by kernel_rfl) (by kernel_rfl) (fun _ _ _ h => h) (Or.inl ⟨by rfl, ?hy3⟩) hH ?_
            case hy3 => intro w' hSw; (try dsimp only at hSw); go_simp
            (try simp only [Act.put, List.setIfInBounds_toArray, List.set_cons_zero, List.set_cons_succ])
            refine wpAnyH_take (i := 4) (v := (.bool true)) rfl (by kernel_rfl) (by kernel_rfl) (by kernel_rfl) (fun _ _ _ h => h) (Or.inl ⟨by rfl, ?hy4⟩) hH ?_
            case hy4 => intro w' hSw; (try dsimp only at hSw); go_simp
            (try simp only [Act.put, List.setIfInBounds_toArray, List.set_cons_zero, List.set_cons_succ])
            refine wpAnyH_take (i := 5) (v := (.bool true)) rfl (by kernel_rfl) (by kernel_rfl) (by kernel_rfl) (fun _ _ _ h => h) (Or.inl ⟨by rfl, ?hy5⟩) hH ?_
            case hy5 => intro w' hSw; (try dsimp only at hSw); go_simp
            (try simp only [Act.put, List.setIfInBounds_toArray, List.set_cons_zero, List.set_cons_succ])
            refine wpAnyH_take (i := 6) (v := undef) rfl (by kernel_rfl) (by kernel_rfl) (by kernel_rfl) (fun _ _ _ h => h) (Or.inr ⟨by kernel_rfl, rfl⟩) hH ?_
            (try simp only [Act.put, List.setIfInBounds_toArray, List.set_cons_zero, List.set_cons_succ])
            refine wpAnyH_take (i := 7) (v := undef) rfl (by kernel_rfl) (by kernel_rfl) (by kernel_rfl) (fun _ _ _ h => h) (Or.inr ⟨by kernel_rfl, rfl⟩) hH ?_
            (try simp only [Act.put, List.setIfInBounds_toArray, List.set_cons_zero, List.set_cons_succ])
            refine wpAnyH_take (i := 8) (v := undef) rfl (by kernel_rfl) (by kernel_rfl) (by kernel_rfl) (fun _ _ _ h => h) (Or.inr ⟨by kernel_rfl, rfl⟩) hH ?_
            (try simp only [Act.put, List.setIfInBounds_toArray, List.set_cons_zero, List.set_cons_succ])
            refine wpAnyH_take (i := 9) (v := undef) rfl (by kernel_rfl) (by kernel_rfl) (by kernel_rfl) (fun _ _ _ h => h) (Or.inr ⟨by kernel_rfl, rfl⟩) hH ?_
            (try simp only [Act.put, List.setIfInBounds_toArray, List.set_cons_zero, List.set_cons_succ])
            refine wpAnyH_take (i := 10) (v := undef) rfl (by kernel_rfl) (by kernel_rfl) (by kernel_rfl) (fun _ _ _ h => h) (Or.inr ⟨by kernel_rfl, rfl⟩) hH ?_
            (try simp only [Act.put, List.setIfInBounds_toArray, List.set_cons_zero, List.set_cons_succ])
            refine wpAnyH_take (i := 11) (v := undef) rfl (by kernel_rfl) (by kernel_rfl) (by kernel_rfl) (fun _ _ _ h => h) (Or.inr ⟨by kernel_rfl, rfl⟩) hH ?_
            (try simp only [Act.put, List.setIfInBounds_toArray, List.set_cons_zero, List.set_cons_succ])
            refine wpAnyH_take (i := 12) (v := undef) rfl (by kernel_rfl) (by kernel_rfl) (by kernel_rfl) (fun _ _ _ h => h) (Or.inr ⟨by kernel_rfl, rfl⟩) hH ?_
            (try simp only [Act.put, List.setIfInBounds_toArray, List.set_cons_zero, List.set_cons_succ])
            refine wpAnyH_take (i := 13) (v := (.bool true)) rfl (by kernel_rfl) (by kernel_rfl) (by kernel_rfl) (fun _ _ _ h => h) (Or.inl ⟨by rfl, ?hy13⟩) hH ?_
            case hy13 => intro w' hSw; (try dsimp only at hSw); go_simp
            (try simp only [Act.put, List.setIfInBounds_toArray, List.set_cons_zero, List.set_cons_succ])
            refine wpAnyH_ready (rs := [14]) (by kernel_rfl) (by simp) ?_
            refine AllReadyH.cons rfl (fun K' hK' => ?_) AllReadyH.nil
            go_simp
            refine (map_pin (HM _ (Ext.refl _ _).drew) (keyA (nn % 9)) true).mono ?_
            rintro e w9 ⟨rfl, hM9, e9⟩
            refine hK'.out _ _ (keep9 e9 hXA hYA' hbW (by simp; omega) (by simp; omega) (by simp; omega) hH) (fun hH' => ?_)
            refine wpAnyH_done (by kernel_rfl) ?_ _
            clear KX KY8 D2 x0 x1 x2 x3 o0 o1 o2 o3 HM heq hP
            go_wp2
            go_roundw
            case rel => exact ⟨k + 1, _, by go_num, by omega, by omega, by omega, hM9.weak (fun _ z => .inl z), hP9, ours_trans3 E68 e9 (Ext.refl Nope w8).drew (fun _ z => .inl z)⟩
            case measure => simp [intOf]; omega
          · have hd : decide (keyA (nn % 9) = o) = false := by simp [hxo]
            simp only [hd] at heq
            clear hd
            have hxo' := toHid2 hxo
            clear hxo
            have hl9 := (pinA_ok hM8.ok (keyA (nn % 9)) (s.tmod 2 == 0)).2.1
            have hP9 := pinIn_pin hP (keyA (nn % 9)) (s.tmod 2 == 0) (fun e => absurd e hxo'.out)
            clear hM8
            first
              | (go_region_held3 (fun w' => w'.cell? ⟨X, 0, none⟩ = some (.int .i64 (keyA (nn % 9)).f) ∧ w'.cell? ⟨X, 1, none⟩ = some (.int .i64 (keyA (nn % 9)).k) ∧ w'.cell? ⟨X, 2, none⟩ = some (.int .i64 (keyA (nn % 9)).n) ∧ w'.cell? ⟨X, 3, none⟩ = some (.int .i64 (keyA (nn % 9)).r) ∧ w'.cell? ⟨Y, 0, none⟩ = some (.int .i64 o.f) ∧ w'.cell? ⟨Y, 1, none⟩ = some (.int .i64 o.k) ∧ w'.cell? ⟨Y, 2, none⟩ = some (.int .i64 o.n) ∧ w'.cell? ⟨Y, 3, none⟩ = some (.int .i64 o.r) ∧ w'.cell? ⟨b, off + k * 3 + 2, none⟩ = some (.int .i64 s)) (first | go_keep | exact keep9 e9 hXA hYA' hbW (by simp; omega) (by simp; omega) (by simp; omega) (by first | assumption | go_keep))
                    (first
                      | (go_at_call 15; refine (map_pin (HM _ (by repeat (first | exact Ext.refl _ _ | refine Ext.drew ?_ | refine Ext.alloc ?_ _))) (keyA (nn % 9)) (s.tmod 2 == 0)).mono ?_; rintro e w9 ⟨rfl, hM9, e9⟩)))
              | fail
            all_goals
              clear KX KY8 D2 x0 x1 x2 x3 o0 o1 o2 o3 HM heq hP
              go_wp2
              go_roundw
              case rel => exact ⟨k + 1, _, by go_num, by omega, by omega, by omega, hM9.weak (fun _ z => .inl z), hP9, ours_trans3 E68 e9 (by repeat (first | exact Ext.refl _ _ | refine Ext.drew ?_ | refine Ext.alloc ?_ _)) (fun _ z => .inl z)⟩
              case measure => simp [intOf]; omega
        by_cases h5 : wh % 6 = 5
        · have t3 : (wh % 6 == 3) = false := by simp [h5]
          have t4 : (wh % 6 == 4) = false := by simp [h5]
          have t5 : (wh % 6 == 5) = true := by simp [h5]
          clear h3 h4 h5
          go_wp2_with fail
          generalize w7.alloc (.cells (ownCells (keyA (nn % 9))) 34 (0, 0)) = w8 at *
          generalize w7.heap.size = X at *
          have hl9 := (dropA_ok hM8.ok (keyA (nn % 9))).2
          obtain ⟨hP9, hD⟩ := pinIn_drop hM8.ok hP (keyA (nn % 9))
          refine (map_drop hM8 (keyA (nn % 9))).mono ?_
          by_cases hxo : keyA (nn % 9) = o
          · rw [hD hxo]
            have hd : decide (keyA (nn % 9) = o) = true := by simp [hxo]
            simp only [hd] at heq
            clear hd
            rintro e w9 ⟨rfl, hM9, e9⟩
            obtain ⟨x0, x1, x2, x3⟩ := cells_of (ours_block e9 hXA KX)
            obtain ⟨o0, o1, o2, o3⟩ := cells_of (ours_block e9 (.inl hYA) KY8)
            clear hM8 KX KY8 D2 d0 d1 d2 hP hD hxo
            go_wp2
            go_roundw
            case rel => exact ⟨k + 1, _, by go_num, by omega, by omega, by omega, hM9.weak (fun _ z => .inl z), hP9, ours_trans E68 e9 (fun _ z => .inl z)⟩
            case measure => simp [intOf]; omega
          · skip
            have hd : decide (keyA (nn % 9) = o) = false := by simp [hxo]
            simp only [hd] at heq
            clear hd
            rintro e w9 ⟨rfl, hM9, e9⟩
            obtain ⟨x0, x1, x2, x3⟩ := cells_of (ours_block e9 hXA KX)
            obtain ⟨o0, o1, o2, o3⟩ := cells_of (ours_block e9 (.inl hYA) KY8)
            clear hM8 KX KY8 D2 d0 d1 d2 hP hD hxo
            go_wp2
            go_roundw
            case rel => exact ⟨k + 1, _, by go_num, by omega, by omega, by omega, hM9.weak (fun _ z => .inl z), hP9, ours_trans E68 e9 (fun _ z => .inl z)⟩
            case measure => simp [intOf]; omega
        · have t3 : (wh % 6 == 3) = false := by simp [h3]
          have t4 : (wh % 6 == 4) = false := by simp [h4]
          have t5 : (wh % 6 == 5) = false := by simp [h5]
          clear h3 h4 h5 heq
          go_wp2
          generalize w7.alloc (.cells (ownCells (keyA (nn % 9))) 34 (0, 0)) = w8 at *
          have hYA' : Also A wr w8 Y := .inl hYA
          have hY8 := lt_of_heap KY8
          have HM : ∀ w', Ext Nope w8 w' → MAp W (Also A wr w8) w' bm (n % 64) xs := fun w' e => hM8.ext0 e
          obtain ⟨x0, x1, x2, x3⟩ := cells_of KX
          generalize w7.heap.size = X at *
          clear d0 d1 d2
          have hl9 := putA_len (n % 64) xs (keyA (nn % 9)) s
          have hlo := putA_out (n % 64) xs (keyA (nn % 9)) s
          obtain ⟨hP9, hG⟩ := pinIn_put hM8.ok hP (keyA (nn % 9)) s
          clear hM8 hP
          go_region_held3 (fun w' => w'.cell? ⟨X, 0, none⟩ = some (.int .i64 (keyA (nn % 9)).f) ∧ w'.cell? ⟨X, 1, none⟩ = some (.int .i64 (keyA (nn % 9)).k) ∧ w'.cell? ⟨X, 2, none⟩ = some (.int .i64 (keyA (nn % 9)).n) ∧ w'.cell? ⟨X, 3, none⟩ = some (.int .i64 (keyA (nn % 9)).r) ∧ w'.cell? ⟨b, off + k * 3 + 2, none⟩ = some (.int .i64 s)) (first | go_keep | exact keep5 e9 hXA hbW (by simp; omega) (by simp; omega) (by first | assumption | go_keep))
            (first
              | (go_at_call 17; refine (map_put (HM _ (by repeat (first | exact Ext.refl _ _ | refine Ext.drew ?_ | refine Ext.alloc ?_ _))) (by omega) (keyA (nn % 9)) s).mono ?_; rintro e w9 ⟨u, rfl, hu, hM9, e9⟩))
          all_goals
            have E69 := ours_trans3 E68 e9 (by repeat (first | exact Ext.refl _ _ | refine Ext.drew ?_ | refine Ext.alloc ?_ _)) (fun _ z => .inl z)
            have KY9 := ours_block e9 hYA' (show _ = some (.cells (ownCells o) 34 (0, 0)) from KY8)
            clear KX KY8 D2 x0 x1 x2 x3 HM e9 E68 hXA
            generalize putA (n % 64) xs (keyA (nn % 9)) s = P at *
            obtain ⟨m, HN⟩ : ∃ m, Hid (P.1.length = m) := ⟨_, rfl⟩
            rcases keysAt_shape hu with ⟨rfl, h0⟩ | ⟨gu, cu, hv, hcu, hmu⟩
            · go_wp2
              refine wp_loop_rounds 1 ?_
              rw [rounds_succ]
              go_wp2
              go_roundw
              case rel => exact ⟨k + 1, P.2.2, by go_num, by omega, by omega, by omega, hM9.weak (fun _ z => .inl z), hP9, E69⟩
              case measure => simp [intOf]; omega
            · rw [HN.out] at hv hcu hlo
              subst hv
              unfold maxLen at hmu
              go_wp2
              go_loopw [95] (fun i wv => ∃ j : Nat, i = .int .i64 j ∧ j ≤ m ∧ Ext Nope w9 wv) (fun i _ => m - (intOf i).toNat)
              case atStart => exact ⟨0, rfl, by omega, Ext.refl _ _⟩
              case round =>
                obtain ⟨j, rfl, hj, hEv⟩ := hrel
                by_cases hjm : j < m
                · obtain ⟨y, a1, a2, hy, hyl⟩ := nth_split (xs := P.1) (k := j) (by rw [HN.out]; exact hjm)
                  obtain ⟨y0, y1, y2, y3⟩ := key_cells (hu.ext2 hEv (fun _ _ z => z)) hy
                  rw [hyl] at y0 y1 y2 y3
                  obtain ⟨o0, o1, o2, o3⟩ := cells_of ((hEv.block Y (lt_of_heap KY9) (fun z => z)).trans KY9)
                  have hyo : y ≠ o := fun e => hG (by rw [hy, ← e]; simp)
                  have heq : ∀ W', (Op.equalIn 10000 34 (.agg #[.int .i64 y.f, .int .i64 y.k, .int .i64 y.n, .int .i64 y.r]) (.agg #[.int .i64 o.f, .int .i64 o.k, .int .i64 o.n, .int .i64 o.r])).run Try.prog W' = .ok false W' := fun W' => (eq34 y o W').trans (by simp [hyo])
                  have hglt := World.block_lt_of_cell? _ _ y0
                  have hYlt := World.block_lt_of_cell? _ _ o0
                  clear hy hyl hu hM9 hP9 hG E69 KY9 hyo
                  go_wp2
                  go_roundw
                  case rel => exact ⟨j + 1, by go_num, by omega, hEv.alloc _⟩
                  case measure => simp [intOf]; omega
                · have hjj : j = m := by omega
                  subst hjj
                  go_wp2
                  go_roundw
                  case rel => exact ⟨k + 1, P.2.2, by go_num, by omega, by omega, by omega, (hM9.ext0 hEv).weak (fun _ z => .inl z), hP9, E69.trans (ours_nope hEv) (fun _ _ z => z)⟩
                  case measure => simp [intOf]; omega
      · obtain ⟨o0, o1, o2, o3⟩ := cells_of KY
        have hrest : (k < len) = true → ¬ k < 60 := fun h1 h2 => hk ⟨by simpa using h1, h2⟩
        clear hM6 hPin K6 ha hE E6
        by_cases hkk : k < len
        · have h60 : ¬ k < 60 := fun z => hk ⟨hkk, z⟩
          clear hk hrest
          go_wp2_with fail
          refine (map_use hM o).mono ?_
          rw [pinIn_use1 hM.ok hP]
          rintro e wa ⟨rfl, hMa, ea⟩
          have hPa := pinIn_use hM.ok hP o
          have Ka := ours_block ea hYA KY
          have Ea := ours_end E ea
          clear hM hP KY ea E o0 o1 o2 o3
          obtain ⟨o0, o1, o2, o3⟩ := cells_of Ka
          go_wp2_with fail
          refine (map_pin hMa o false).mono ?_
          obtain ⟨hb1, sz', hb2⟩ := pinIn_pin1 hMa.ok hPa false
          rw [hb1]
          rintro e wb ⟨rfl, hMb, eb⟩
          have Kb := ours_block eb hYA Ka
          have Eb := ours_end Ea eb
          clear hMa hPa Ka eb Ea o0 o1 o2 o3 hb1
          obtain ⟨o0, o1, o2, o3⟩ := cells_of Kb
          go_wp2_with fail
          refine (map_drop hMb o).mono ?_
          rw [drop_off hMb.ok hb2]
          rintro e wc ⟨rfl, hMc, ec⟩
          have Kc := ours_block ec hYA Kb
          have Ec := ours_end Eb ec
          clear hMb Kb ec Eb o0 o1 o2 o3 hb2
          obtain ⟨o0, o1, o2, o3⟩ := cells_of Kc
          go_wp2_with fail
          refine (map_use hMc o).mono ?_
          rw [show (useA ((0 : Int), restK o _).2 o).1 = false from use_rest _ o]
          rintro e wd ⟨rfl, hMd, ed⟩
          have Ed := ours_end Ec ed
          clear hMc Kc ed Ec o0 o1 o2 o3 hMd
          go_wp2
          go_ret
          exact ⟨rfl, Ed⟩
        · clear hk hrest
          go_wp2_with fail
          refine (map_use hM o).mono ?_
          rw [pinIn_use1 hM.ok hP]
          rintro e wa ⟨rfl, hMa, ea⟩
          have hPa := pinIn_use hM.ok hP o
          have Ka := ours_block ea hYA KY
          have Ea := ours_end E ea
          clear hM hP KY ea E o0 o1 o2 o3
          obtain ⟨o0, o1, o2, o3⟩ := cells_of Ka
          go_wp2_with fail
          refine (map_pin hMa o false).mono ?_
          obtain ⟨hb1, sz', hb2⟩ := pinIn_pin1 hMa.ok hPa false
          rw [hb1]
          rintro e wb ⟨rfl, hMb, eb⟩
          have Kb := ours_block eb hYA Ka
          have Eb := ours_end Ea eb
          clear hMa hPa Ka eb Ea o0 o1 o2 o3 hb1
          obtain ⟨o0, o1, o2, o3⟩ := cells_of Kb
          go_wp2_with fail
          refine (map_drop hMb o).mono ?_
          rw [drop_off hMb.ok hb2]
          rintro e wc ⟨rfl, hMc, ec⟩
          have Kc := ours_block ec hYA Kb
          have Ec := ours_end Eb ec
          clear hMb Kb ec Eb o0 o1 o2 o3 hb2
          obtain ⟨o0, o1, o2, o3⟩ := cells_of Kc
          go_wp2_with fail
          refine (map_use hMc o).mono ?_
          rw [show (useA ((0 : Int), restK o _).2 o).1 = false from use_rest _ o]
          rintro e wd ⟨rfl, hMd, ed⟩
          have Ed := ours_end Ec ed
          clear hMc Kc ed Ec o0 o1 o2 o3 hMd
          go_wp2
          go_ret
          exact ⟨rfl, Ed⟩
end Go.Proofs.Ytkloaadaicklfaa
