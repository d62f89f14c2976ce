/-
  slices.Repeat of boxes.
-/
import Derived.Test.YtajebdpalnpjdaaGreatDoorM20
import Derived.StillTailTactics
namespace Go.Proofs.YtajebdpalnpjdaaGreatDoor
open Go.RowKit
attribute [local go_sem] alloc_drewN setCell_drewN

theorem infoBox : (Tryz.prog.info? 164).map (fun i => (i.zero, i.size, i.bytes)) = some (some (.agg #[.int .i64 0, .int .i64 0, .int .i64 0, .int .i64 0]), 4, 32) := by kernel_rfl
theorem infoTwo : (Tryz.prog.info? 22).map (fun i => (i.zero, i.size, i.bytes)) = some (some (.agg #[.int .i64 0, .int .i64 0]), 2, 16) := by kernel_rfl
abbrev z4 : List Value := [.int .i64 0, .int .i64 0, .int .i64 0, .int .i64 0]
theorem made_flat (zs : List Value) (n : Nat) (h0 : 0 < zs.length) : madeCells zs.toArray (n * zs.length) = ((List.replicate n zs).flatten).toArray := by
  apply Array.toList_inj.1
  simp only [madeCells, Array.toList_map, Array.toList_range]
  apply List.ext_getElem
  · simp
  · intro i h1 h2
    simp at h1
    rw [List.getElem_map, List.getElem_range]
    have key : ∀ (n i : Nat) (h : i < ((List.replicate n zs).flatten).length), ((List.replicate n zs).flatten)[i]? = zs[i % zs.length]? := by
      intro n
      induction n with
      | zero => intro i h; simp at h
      | succ n ih =>
        intro i h
        rw [List.replicate_succ, List.flatten_cons]
        by_cases hi : i < zs.length
        · rw [List.getElem?_append_left hi, Nat.mod_eq_of_lt hi]
        · rw [List.getElem?_append_right (by omega), ih (i - zs.length) (by rw [flat_len] at h ⊢; rw [Nat.add_mul, Nat.one_mul] at h; omega), Nat.mod_eq_sub_mod (show i ≥ zs.length by omega)]
    have h3 := key n i h2
    rw [List.getElem?_eq_getElem h2] at h3
    have h4 : i % zs.length < zs.length := Nat.mod_lt _ h0
    rw [List.getElem?_eq_getElem h4] at h3
    simp only [Option.some.injEq] at h3
    rw [h3]
    simp [h4]
theorem made_boxes (W : World) (n : Nat) (hn : n ≤ 1000) : (Instr.makeSlice 162 (.int .i64 (n : Int)) (.int .i64 (n : Int))).run Tryz.prog W = .ok (.slice (some ⟨W.heap.size, 0, none⟩) n n) (W.alloc (.cells (rep z4 z4 0 n).toArray 164)) := by
  obtain ⟨i0, hi, hz0, hz1, hz2⟩ := info_parts infoBox
  have := Go.run_make (P := Tryz.prog) W 162 164 i0 _ Tryz.underlying162 hi hz0 .i64 .i64 (n : Int) (n : Int) (by omega) (by omega) (by rw [hz2]; omega) (by omega)
  rw [hz1, show (Value.agg #[.int .i64 0, .int .i64 0, .int .i64 0, .int .i64 0]).cells = z4.toArray from rfl] at this
  simp only [Int.toNat_natCast] at this
  rw [show n * 4 = n * z4.length from rfl, made_flat z4 n (by decide)] at this
  exact this
theorem rep_zero (pat zs : List Value) (n : Nat) : rep pat zs 0 n = (List.replicate n zs).flatten := by simp [rep]
theorem rep_one {pat : List Value} (h : ∀ v ∈ pat, v.oneCell' = true) (k : Nat) : ∀ v ∈ (List.replicate k pat).flatten, v.oneCell' = true := by
  intro v hv
  obtain ⟨l, hl, hv⟩ := List.mem_flatten.1 hv
  rw [(List.mem_replicate.1 hl).2] at hv
  exact h v hv
theorem rep_at {w : World} {b T : Nat} {pat zs : List Value} {k m j : Nat} (h : w.heap[b]? = some (.cells (rep pat zs k m).toArray T (0, 0))) (hj : j ≤ k) : ∀ (i : Nat) (u : Value), (List.replicate j pat).flatten[i]? = some u → w.cell? (Addr.add ⟨b, 0, none⟩ i) = some u := by
  intro i u hi
  have hadd : Addr.add ⟨b, 0, none⟩ i = at_ b i := by unfold Addr.add; split <;> simp_all
  have hl := (List.getElem?_eq_some_iff.1 hi).1
  rw [hadd, cell_of_blk h, List.getElem?_toArray, rep, List.getElem?_append_left (by rw [flat_len] at hl ⊢; exact Nat.lt_of_lt_of_le hl (Nat.mul_le_mul_right _ hj))]
  have : (List.replicate k pat).flatten = (List.replicate j pat).flatten ++ (List.replicate (k - j) pat).flatten := by
    rw [← List.flatten_append, List.replicate_append_replicate, show j + (k - j) = k by omega]
  rw [this, List.getElem?_append_left hl]
  exact hi
theorem four_at {w : World} {b T : Nat} {x y z u : Value} (h : w.heap[b]? = some (.cells #[x, y, z, u] T (0, 0))) : ∀ (j : Nat) (v : Value), [x, y, z, u][j]? = some v → w.cell? (Addr.add ⟨b, 0, none⟩ j) = some v := by
  intro j v hj
  have hadd : Addr.add ⟨b, 0, none⟩ j = at_ b j := by unfold Addr.add; split <;> simp_all
  rw [hadd, cell_of_blk h]
  simpa using hj
set_option maxRecDepth 100000 in
set_option maxHeartbeats 4000000 in
/-- slices.Repeat of one box -/
theorem repeat_boxes {w : World} {xb n : Nat} {a b c d : Int} (hx : w.heap[xb]? = some (.cells #[.int .i64 a, .int .i64 b, .int .i64 c, .int .i64 d] 164 (0, 0))) (h1 : 1 ≤ n) (h2 : n ≤ 40) :
    Calls Tryz.prog 88 #[.slice (some ⟨xb, 0, none⟩) 1 1, .int .i64 n] w fun e w' => ∃ g, e = .returned (.slice (some ⟨g, 0, none⟩) n n) ∧ w'.heap[g]? = some (.cells (rep [.int .i64 a, .int .i64 b, .int .i64 c, .int .i64 d] z4 n 0).toArray 164 (0, 0)) ∧ w.heap.size ≤ g ∧ Ext Nope w w' := by
  have HMul := toHid (show ∀ W, Calls Tryz.prog 176 #[.int .u64 1, .int .u64 (n : Int)] W (fun e w' => e = .returned (.tuple #[.int .u64 0, .int .u64 (n : Int)]) ∧ W = w') from fun W => (Tryz.bits_Mul 1 n (by omega) (by omega) W).mono fun e w' ⟨he, hw⟩ => ⟨by rw [he, Nat.one_mul, Nat.div_eq_of_lt (by omega), Nat.mod_eq_of_lt (by omega)]; rfl, hw.symm⟩)
  have HX := toHid hx
  have HXL := toHid (lt_of_heap hx)
  have s1 : ¬ ((n : Int) < 0) := by omega
  have s2 : IntKind.u64.wrap (n : Int) = (n : Int) := by simp [IntKind.wrap, IntKind.bits, IntKind.signed]; omega
  have s3 : IntKind.i64.wrap (n : Int) = (n : Int) := IntWalk.i64_in _ (by omega)
  have s4 : ¬ ((9223372036854775807 : Int) < (n : Int)) := by omega
  have s5 : decide ((9223372036854775807 : Int) < (n : Int)) = false := decide_eq_false s4
  clear s4
  have hmk := fun W => made_boxes W n (by omega)
  obtain ⟨pat, HPat⟩ : ∃ pat : List Value, Hid ([.int .i64 a, .int .i64 b, .int .i64 c, .int .i64 d] = pat) := ⟨_, rfl⟩
  have hp1 : ∀ v ∈ pat, v.oneCell' = true := by rw [← HPat.out]; intro v hv; simp at hv; rcases hv with rfl | rfl | rfl | rfl <;> rfl
  have hp4 : pat.length = 4 := by rw [← HPat.out]; rfl
  rw [HPat.out]
  clear hx
  go_enter Tryz.func88, Tryz.ntmps88
  go_wp2_with fail
  refine (HMul.out _).mono ?_
  rintro e w2 ⟨rfl, rfl⟩
  have hx2 := four_at ((heap_alloc_old w (.cells (rep z4 z4 0 n).toArray 164) xb HXL.out).trans HX.out)
  rw [HPat.out] at hx2
  have HX2 := toHid hx2
  have hg0 : (w.alloc (.cells (rep z4 z4 0 n).toArray 164)).heap[w.heap.size]? = some (.cells (rep pat z4 0 n).toArray 164 (0, 0)) := by rw [heap_alloc_new, rep_zero, rep_zero]
  have HG0 := toHid hg0
  clear hx2 hg0
  have hlen : (rep pat z4 0 n).length = n * 4 := by rw [rep_length (by rw [hp4]; rfl), hp4, Nat.zero_add]
  go_wp2_with (refine wl_copy rfl (.tmp 31) (.tmp 32) 162 162 164 4 32 _ rfl Tryz.underlying162 infoBox w.heap.size 0 n n ⟨xb, 0, none⟩ 1 1 rfl rfl _ HG0.out pat (by rw [hp4, show Nat.min 1 n = 1 from Nat.min_eq_left h1]) HX2.out (by rw [hp4, hlen]; omega) hp1 ?_; intro w3 hG3 e3)
  have hr1 : splice (rep pat z4 0 n) 0 pat = rep pat z4 1 (n - 1) := by
    have := rep_splice (pat := pat) (zs := z4) (k := 0) (m := n) (j := 1) (by rw [hp4]; rfl) h1
    simpa using this
  have hG3 := hG3.out
  rw [hr1] at hG3
  have E3 : Ext Nope w w3 := ((Ext.refl Nope w).alloc _).trans e3 (fun b hb z => by have z : b = w.heap.size := z; omega)
  have H3 := toHid (show _ ∧ _ from ⟨hG3, E3⟩)
  obtain ⟨nb, HNB⟩ : ∃ nb, Hid (w.heap.size = nb) := ⟨_, rfl⟩
  rw [HNB.out] at H3 ⊢
  clear hG3 e3 E3 hr1 HX2 HG0 hlen
  have hg1 : goInt (Nat.min 1 n) = .int .i64 1 := by rw [show Nat.min 1 n = 1 from Nat.min_eq_left h1]; rfl
  try rw [hg1]
  go_loopw [8] (fun i wr => ∃ k : Nat, i = .int .i64 k ∧ 1 ≤ k ∧ k ≤ n ∧ wr.heap[nb]? = some (.cells (rep pat z4 k (n - k)).toArray 164 (0, 0)) ∧ Ext Nope w wr) (fun i _ => n - (intOf i).toNat)
  case atStart => exact ⟨1, rfl, Nat.le_refl _, h1, H3.out⟩
  case round =>
    obtain ⟨k, rfl, hk1, hk, hg, hE⟩ := hrel
    rename World => wr
    have HW := toHid (show _ ∧ _ from ⟨hg, hE⟩)
    clear hg hE
    by_cases hkn : k < n
    · have q1 : (0 : Int) ≤ (k : Int) := by omega
      have q2 : (k : Int) < (n : Int) := by omega
      have q3 : (k : Int) ≤ (n : Int) := by omega
      have q4 : ¬ n = k := by omega
      obtain ⟨J, HJ⟩ : ∃ J, Nat.min k (n - k) = J := ⟨_, rfl⟩
      have HJ2 : min k (n - k) = J := HJ
      have j1 : 1 ≤ J := by omega
      have j2 : J ≤ k := by omega
      have j3 : J ≤ n - k := by omega
      have q5 : IntKind.i64.wrap ((k : Int) + (J : Int)) = (k : Int) + (J : Int) := IntWalk.i64_in _ (by omega)
      clear HJ2
      go_wp2_with fail
      refine wp_region_head 8 (fun _ => True) (by kernel_rfl) (by kernel_rfl) trivial (fun hO hHeld => ?_)
      refine wpAnyT_takeD (i := 0) (d := some 38) (v := ?_) hO rfl rfl (by kernel_rfl) (fun _ _ _ h => h) (Or.inl ⟨by rfl, ?_⟩) (by exact hHeld) ?_
      rotate_left
      · intro w' hSw
        go_simp
        try (with_reducible rfl)
      try simp only [Act.put, List.setIfInBounds_toArray, List.set_cons_zero, List.set_cons_succ]
      refine wpAnyT_takeD (i := 1) (d := some 39) (v := ?_) hO rfl rfl (by kernel_rfl) (fun _ _ _ h => h) (Or.inl ⟨by rfl, ?_⟩) (by exact hHeld) ?_
      rotate_left
      · intro w' hSw
        go_simp
        try (with_reducible rfl)
      try simp only [Act.put, List.setIfInBounds_toArray, List.set_cons_zero, List.set_cons_succ]
      refine wpAnyT_takeD (i := 2) (d := some 40) (v := ?_) hO rfl rfl (by kernel_rfl) (fun _ _ _ h => h) (Or.inl ⟨by rfl, ?_⟩) (by exact hHeld) ?_
      rotate_left
      · intro w' hSw
        go_simp
        try (with_reducible rfl)
      try simp only [Act.put, List.setIfInBounds_toArray, List.set_cons_zero, List.set_cons_succ]
      refine wpAnyT_takeD (i := 3) (d := some 41) (v := ?_) hO rfl rfl (by kernel_rfl) (fun _ _ _ h => h) (Or.inl ⟨by rfl, ?_⟩) (by exact hHeld) ?_
      rotate_left
      · intro w' hSw
        go_simp
        try (with_reducible rfl)
      try simp only [Act.put, List.setIfInBounds_toArray, List.set_cons_zero, List.set_cons_succ]
      refine wpAnyT_takeD (i := 4) (d := some 42) (v := ?_) hO rfl rfl (by kernel_rfl) (fun _ _ _ h => h) (Or.inl ⟨by rfl, ?_⟩) (by exact hHeld) ?_
      rotate_left
      · intro w' hSw
        go_simp
        try (with_reducible rfl)
      try simp only [Act.put, List.setIfInBounds_toArray, List.set_cons_zero, List.set_cons_succ]
      refine wpAnyT_takeD (i := 5) (d := some 43) (v := ?_) hO rfl rfl (by kernel_rfl) (fun _ _ _ h => h) (Or.inl ⟨by rfl, ?_⟩) (by exact hHeld) ?_
      rotate_left
      · intro w' hSw
        go_simp
        try (with_reducible rfl)
      try simp only [Act.put, List.setIfInBounds_toArray, List.set_cons_zero, List.set_cons_succ]
      refine wpAnyT_takeD (i := 6) (d := some 44) (v := ?_) hO rfl rfl (by kernel_rfl) (fun _ _ _ h => h) (Or.inl ⟨by rfl, ?_⟩) (by exact hHeld) ?_
      rotate_left
      · intro w' hSw
        go_simp
        try (with_reducible rfl)
      try simp only [Act.put, List.setIfInBounds_toArray, List.set_cons_zero, List.set_cons_succ]
      refine wpAnyT_one (i := 7) rfl (by kernel_rfl) (by rfl) (fun K hK => ?_)
      have hflat : ((List.replicate J pat).flatten).length = J * 4 := by rw [flat_len, hp4]
      have hRow : wr.drew.heap[nb]? = some (.cells (rep pat z4 k (n - k)).toArray 164 (0, 0)) := HW.out.1
      refine wp_copy (.tmp 41) (.tmp 44) 162 162 164 4 32 _ rfl Tryz.underlying162 infoBox nb (k * 4) (n - k) (n - k) ⟨nb, 0, none⟩ k n rfl rfl _ hRow ((List.replicate J pat).flatten) (by rw [hflat, HJ]) (rep_at hRow j2) (by rw [hflat, rep_length (by rw [hp4]; rfl), hp4]; omega) (rep_one hp1 J) ?_
      intro w4 hG4 e4
      have hG4 := hG4.out
      have hsp := rep_splice (pat := pat) (zs := z4) (k := k) (m := n - k) (j := J) (by rw [hp4]; rfl) j3
      rw [hp4] at hsp
      rw [hsp] at hG4
      have H4 := toHid (show _ ∧ _ from ⟨hG4, (ext0 HW.out.2 (Ext.refl Nope wr).drew).trans e4 (fun b hb z => by have z : b = nb := z; have := HNB.out; omega)⟩)
      clear hG4 e4 hsp hRow hflat
      rw [HJ]
      refine hK.out _ _ trivial (fun _ => ?_)
      clear hK K
      try simp only [Act.put, List.setIfInBounds_toArray, List.set_cons_zero, List.set_cons_succ]
      refine wpAnyT_done (by kernel_rfl) ⟨by kernel_rfl, ?_⟩
      simp only [List.drop_succ_cons, List.drop_zero]
      unfold goInt
      go_wp2_with fail
      refine ⟨⟨k + J, congrArg (Value.int .i64) (by omega), by omega, by omega, ?_⟩, ?_⟩
      · rw [show n - (k + J) = n - k - J by omega]; exact H4.out
      · simp only [intOf]; omega
    · have hkk : k = n := by omega
      subst hkk
      go_wp2_with fail
      go_ret
      rw [Nat.sub_self] at HW
      exact ⟨_, rfl, HW.out.1, by have := HNB.out; omega, HW.out.2⟩
end Go.Proofs.YtajebdpalnpjdaaGreatDoor
