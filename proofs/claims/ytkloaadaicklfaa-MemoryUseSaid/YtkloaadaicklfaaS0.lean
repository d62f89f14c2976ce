/-
  The walk of puts, which the example uses.
-/
import Derived.Test.YtkloaadaicklfaaL0
namespace Go.Proofs.Ytkloaadaicklfaa
open Go.RowKit
attribute [local go_sem] alloc_drewN setCell_drewN

/-- A memory that was made after a world, and whose blocks are new. -/
def MNew (w0 w : World) (bm : Nat) (B : Int) (xs : List Kept) : Prop :=
  ∃ F, MemIs w bm B xs F ∧ (∀ b, F b → w0.heap.size ≤ b ∧ b < w.heap.size) ∧ Ext Nope w0 w

theorem MNew.ext {w0 w w' : World} {bm : Nat} {B : Int} {xs : List Kept} (h : MNew w0 w bm B xs) (he : Ext Nope w w') : MNew w0 w' bm B xs := by
  obtain ⟨F, h1, h2, h3⟩ := h
  exact ⟨F, h1.ext he (fun _ _ z => z), fun b hb => ⟨(h2 b hb).1, Nat.lt_of_lt_of_le (h2 b hb).2 he.size⟩, ext0 h3 he⟩

theorem mnew_new (n : Int) (w : World) (h1 : 0 ≤ n) (h2 : n ≤ 1073741824) : Calls Try.prog 12 #[.int .i64 n] w fun e w' => ∃ bm, e = .returned (ptr bm) ∧ MNew w w' bm n [] := by
  refine (mnew_calls n w h1 h2).mono ?_
  rintro e w' ⟨bm, rfl, hm, he⟩
  exact ⟨bm, rfl, _, hm, fun b hb => hb, he⟩

/-- What an act leaves of it. -/
theorem MNew.act {w0 w w1 w2 : World} {bm : Nat} {B : Int} {ys : List Kept} {F : Nat → Prop} (h2 : ∀ b, F b → w0.heap.size ≤ b ∧ b < w.heap.size) (h3 : Ext Nope w0 w) (e1 : Ext Nope w w1) (m : MemIs w2 bm B ys (Grow F w1 w2)) (e2 : Ext F w1 w2) : MNew w0 w2 bm B ys := by
  have s0 := h3.size
  have s1 := e1.size
  have s2 := e2.size
  refine ⟨_, m, ?_, ?_⟩
  · rintro b (hb | hb)
    · have := h2 b hb; omega
    · omega
  · refine ⟨e2.os.trans (e1.os.trans h3.os), e2.tape.trans (e1.tape.trans h3.tape), e2.output.trans (e1.output.trans h3.output), by omega, fun b hb _ => ?_⟩
    rw [e2.block b (by omega) (fun z => by have := h2 b z; omega), e1.block b (by omega) (fun z => z), h3.block b hb (fun z => z)]

/-- Numbers in a slice. -/
def IntsAt (w : World) (v : Value) (ns : List Int) : Prop :=
  (v = .slice none 0 0 ∧ ns = []) ∨ ∃ b T fz, v = .slice (some ⟨b, 0, none⟩) ns.length ns.length ∧ w.heap[b]? = some (.cells (ns.map (Value.int .i64)).toArray T fz)

theorem evictK_out (B : Int) : ∀ (r : List Kept) (u : Int), (evictK B u r).1.length ≤ r.length
  | [], _ => by simp [evictK]
  | p :: r, u => by
    simp only [evictK]
    split
    · split
      · have := evictK_out B r u; simp only [List.length_cons]; omega
      · have := evictK_out B r (u - p.size); simp only [List.length_cons]; omega
    · simp
theorem putA_out (B : Int) (xs : List Kept) (o : Own) (s : Int) : (putA B xs o s).1.length ≤ xs.length := by
  unfold putA
  split
  · simp
  · split
    · simp
    · simp only
      have := evictK_out B (restK o xs) (usedOf (restK o xs) + s)
      have := rest_len o xs
      omega

theorem keysAt_nil (w : World) (base : Nat) : KeysAt w base (.slice none 0 0) [] := World.ownsRow_nil _ _ _ _

set_option maxHeartbeats 1000000 in
theorem puts_calls {w0 w w1 : World} {bm : Nat} {B : Int} {xs : List Kept} (h : MNew w0 w bm B xs) (hk : KOk B xs) (hl : xs.length ≤ 990) (he : Ext Nope w w1) (k s : Int) (k0 : 0 ≤ k) (k1 : k ≤ 1000) {v : Value} {ns : List Int} (hv : IntsAt w1 v ns) (hnew : ∀ b, v.ownBlock = some b → w.heap.size ≤ b)
    (hns : ∀ n ∈ ns, 0 ≤ n ∧ n ≤ 1000) (hnl : ns.length ≤ 100) :
    Calls Try.prog 21 #[ptr bm, .int .i64 k, .int .i64 s, v] w1 fun e w' => e = .returned (.bool (decide ((putA B xs (keyA k) s).2.1 = 0) && decide ((putA B xs (keyA k) s).1 = ns.map keyA))) ∧ MNew w0 w' bm B (putA B xs (keyA k) s).2.2 := by
  obtain ⟨i0, hi, hz0, hz1, hz2⟩ := info_parts info34
  obtain ⟨F, hm, hF, hE0⟩ := h
  have hF1 : ∀ b, v.ownBlock = some b → ¬ F b := fun b hb z => by have := hnew b hb; have := hF b z; omega
  have A1 : ∀ {w2 w3 : World}, Ext Nope w1 w2 → MemIs w3 bm B (putA B xs (keyA k) s).2.2 (Grow F w2 w3) → Ext F w2 w3 → MNew w0 w3 bm B (putA B xs (keyA k) s).2.2 := fun e1 m e2 => MNew.act hF hE0 (ext0 he e1) m e2
  have HM : ∀ w', Ext Nope w1 w' → MemIs w' bm B xs F := fun w' e => hm.ext (ext0 he e) (fun _ _ z => z)
  have HP : ∀ w', Ext Nope w1 w' → Calls Try.prog 17 #[ptr bm, (keyA k).val, .int .i64 s] w' fun e w'' => ∃ v, e = .returned (.tuple #[v, .int .i64 (putA B xs (keyA k) s).2.1]) ∧ KeysAt w'' w'.heap.size v (putA B xs (keyA k) s).1 ∧ MemIs w'' bm B (putA B xs (keyA k) s).2.2 (Grow F w' w'') ∧ Ext F w' w'' := fun w' e => mput_calls (HM w' e) hk (by omega) (keyA k) s
  clear hm hF hE0 hnew HM
  have hgl := putA_out B xs (keyA k) s
  generalize putA B xs (keyA k) s = P at *
  obtain ⟨rfl, rfl⟩ | ⟨b, T, fz, rfl, hblk⟩ := hv
  · go_enter Try.func21, Try.ntmps21
    go_wp2_with fail
    refine (key_calls k _ k0 k1).mono ?_
    rintro e w2 ⟨rfl, hE1⟩
    go_wp2_with fail
    refine (HP _ hE1).mono ?_
    rintro e w3 ⟨u, rfl, hks, hm3, hE2⟩
    have M3 := A1 hE1 hm3 hE2
    go_wp2_with fail
    refine wp_loop_rounds 1 ?_
    rw [rounds_succ]
    by_cases hp0 : P.2.1 = 0
    · have HQ := toHid hp0
      have tq : (P.2.1 == 0) = true := by simp [hp0]
      clear hp0
      go_wp2_with fail
      refine (same_walk hks (keysAt_nil w3 0) (by omega) (by simp)).mono ?_
      rintro e w5 ⟨rfl, hE5⟩
      go_wp2
      go_ret
      exact ⟨by simp [HQ.out, List.map_nil], M3.ext hE5⟩
    · have tq : (P.2.1 == 0) = false := by simp [hp0]
      have HQ : Hid (P.2.1 ≠ 0) := hp0
      clear hp0
      go_wp2
      go_ret
      exact ⟨by simp [HQ.out], M3⟩
  · obtain ⟨n, HN⟩ : ∃ n, Hid (ns.length = n) := ⟨_, rfl⟩
    rw [HN.out] at hnl ⊢
    go_enter Try.func21, Try.ntmps21
    go_wp2_with fail
    refine (key_calls k _ k0 k1).mono ?_
    rintro e w2 ⟨rfl, hE1⟩
    go_wp2_with fail
    refine (HP _ hE1).mono ?_
    rintro e w3 ⟨u, rfl, hks, hm3, hE2⟩
    have M3 := A1 hE1 hm3 hE2
    have hb3 : w3.heap[b]? = some (.cells (ns.map (Value.int .i64)).toArray T fz) := (hE2.block b (by have := hE1.size; have := lt_of_heap hblk; omega) (hF1 b rfl)).trans ((hE1.block b (lt_of_heap hblk) (fun z => z)).trans hblk)
    clear hE1 hE2 hm3 HP hblk he A1
    go_wp2_with fail
    go_loopw [11, 24] (fun x i wr => ∃ k : Nat, i = .int .i64 k ∧ k ≤ n ∧ KeysAt wr w3.heap.size x ((ns.take k).map keyA) ∧ Ext Nope w3 wr) (fun _ i _ => n - (intOf i).toNat)
    case atStart => exact ⟨0, rfl, Nat.zero_le _, World.ownsRow_nil _ _ _ _, Ext.refl _ _⟩
    case round =>
      obtain ⟨k, rfl, hkn0, hxs, hE⟩ := hrel
      by_cases hkn : k < n
      · obtain ⟨y, a1, a2, hy, hyl⟩ := nth_split (xs := ns) (k := k) (by rw [HN.out]; exact hkn)
        have hc := cell_of_blk ((hE.block b (lt_of_heap hb3) (fun z => z)).trans hb3) k
        have hyy : (ns.map (Value.int .i64)).toArray[k]? = some (.int .i64 y) := by rw [hy, ← hyl]; simp
        rw [hyy] at hc
        have hyb := hns y (by rw [hy]; simp)
        have t1 : (ns.take k).map keyA = a1.map keyA := by rw [hy, ← hyl, List.take_left]
        have t2 : (ns.take (k + 1)).map keyA = a1.map keyA ++ [keyA y] := by rw [hy, show k + 1 = (a1 ++ [y]).length from by simp [hyl], show a1 ++ y :: a2 = (a1 ++ [y]) ++ a2 from by simp, List.take_left]; simp
        rw [t1] at hxs
        have hl1 : a1.length + 1 ≤ 1000000 := by omega
        have T2 := toHid t2
        clear t1 t2 hy hyl hyy
        go_wp2_with fail
        refine (key_calls y _ hyb.1 hyb.2).mono ?_
        rintro e w4 ⟨rfl, hE4⟩
        have hE14 := ext0 hE hE4
        have hx4 := hxs.ext hE4 (fun _ _ z => z)
        have hown : w4.ownsRow w3.heap.size 34 4 u11 (a1.map keyA).length (keyCells (a1.map keyA)) := hx4
        clear hx4 hxs hc hE hE4
        go_wp2_with (first | (at_builtin; refine wpList_append_own _ rfl (.tmp 28) (.tmp 31) 43 rfl w3.heap.size 34 i0 _ 4 32 Try.underlying43 hi hz0 hz1 hz2 rfl (by decide) _ _ _ rfl (hown.alloc _) ⟨w4.heap.size, 0, none⟩ 1 1 (keyCells [keyA y]) rfl rfl ?c1 ?c2 ?c3 ?c4 ?c5 ?_) | go_in)
        case c1 => intro j u hj; first | exact keyCells_at (heap_alloc_new w4 _) j u hj | (rw [keyCells_one] at hj; exact hj)
        case c2 => exact keyCells_oneCell _
        case c3 => unfold maxLen; first | omega | (rw [List.length_map]; omega)
        case c4 => first | omega | (rw [List.length_map]; omega)
        case c5 => have := hE14.size; simp; omega
        intro v' w5 hown' hgrow _
        have hE1 : Ext Nope w3 w5 := (hE14.alloc _).grown hgrow fun k1 hk1 hl => absurd (hown.lt k1 hk1).1 (by omega)
        have HO : KeysAt w5 w3.heap.size v' (a1.map keyA ++ [keyA y]) := KeysAt.snoc' hown' (by simp)
        clear hown' hgrow hown hE14
        go_wp2
        go_roundw
        case rel => exact ⟨k + 1, by go_num, by omega, by rw [T2.out]; exact HO, hE1⟩
        case measure => simp [intOf]; omega
      · have hkk : k = n := by omega
        subst hkk
        have hq : KeysAt wr w3.heap.size u11 (ns.map keyA) := by rw [← HN.out, List.take_length] at hxs; exact hxs
        clear hxs
        have hk5 := hks.ext hE (fun _ _ z => z)
        by_cases hp0 : P.2.1 = 0
        · have HQ := toHid hp0
          have tq : (P.2.1 == 0) = true := by simp [hp0]
          clear hp0
          go_wp2_with fail
          refine (same_walk hk5 hq (by omega) (by have := HN.out; simp; omega)).mono ?_
          rintro e w5 ⟨rfl, hE5⟩
          go_wp2
          go_ret
          exact ⟨by simp [HQ.out], (M3.ext hE).ext hE5⟩
        · have tq : (P.2.1 == 0) = false := by simp [hp0]
          have HQ : Hid (P.2.1 ≠ 0) := hp0
          clear hp0
          go_wp2
          go_ret
          exact ⟨by simp [HQ.out], M3.ext hE⟩

end Go.Proofs.Ytkloaadaicklfaa
