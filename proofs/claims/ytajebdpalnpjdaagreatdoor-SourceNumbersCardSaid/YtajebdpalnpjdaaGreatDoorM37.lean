/-
  rules.First.
  source.Parse: fonts with lookups.
-/
import Derived.Test.YtajebdpalnpjdaaGreatDoorM36
import Derived.Test.YtajebdpalnpjdaaGreatDoorM09
import Derived.Test.YtajebdpalnpjdaaGreatDoorM01
namespace Go.Proofs.YtajebdpalnpjdaaGreatDoor
open Go.RowKit
attribute [local go_sem] alloc_drewN setCell_drewN

/-- The glyphs with which rules begin, in the order of the rules. -/
def firstRaw (rs : List RuleA) : List Int := rs.flatMap fun r => r.in_.headD []
theorem firstRaw_snoc {rs : List RuleA} {k : Nat} {r : RuleA} {s : List Int} {t : List (List Int)} (hr : rs[k]? = some r) (hin : r.in_ = s :: t) : firstRaw (rs.take (k + 1)) = firstRaw (rs.take k) ++ s := by
  have hk := (List.getElem?_eq_some_iff.1 hr).1
  rw [List.take_succ_eq_append_getElem hk, (List.getElem?_eq_some_iff.1 hr).2]
  unfold firstRaw
  rw [List.flatMap_append, List.flatMap_cons, List.flatMap_nil, List.append_nil, hin]
  rfl
theorem firstRaw_len {rs : List RuleA} (hin : ∀ r ∈ rs, ∃ s t, r.in_ = s :: t ∧ 0 < s.length ∧ s.length ≤ 1000) : ∀ k, k ≤ rs.length → (firstRaw (rs.take k)).length ≤ 1000 * k := by
  intro k
  induction k with
  | zero => intro _; simp [firstRaw]
  | succ k ih =>
    intro hk
    obtain ⟨s, t, h1, _, h3⟩ := hin rs[k] (List.getElem_mem _)
    rw [firstRaw_snoc (List.getElem?_eq_getElem hk) h1, List.length_append]
    have := ih (by omega)
    omega
theorem rule_cells5 {w : World} {b : Nat} {T : TypeId} {x0 x1 x2 x3 x4 : Value} (h : w.heap[b]? = some (.cells #[x0, x1, x2, x3, x4] T (0, 0))) : w.cell? ⟨b, 1, none⟩ = some x1 := by
  rw [show (⟨b, 1, none⟩ : Addr) = at_ b 1 from rfl, cell_of_blk h]; rfl
set_option maxRecDepth 100000 in
set_option maxHeartbeats 8000000 in
/-- rules.First of a lookup whose rules begin with glyphs that go up -/
theorem first_calls {w : World} {A : Nat → Prop} {v : Value} {rs : List RuleA} (h : Rd A w [v] (rulesD rs)) (hin : ∀ r ∈ rs, ∃ s t, r.in_ = s :: t ∧ 0 < s.length ∧ s.length ≤ 1000) (hi : Incr (firstRaw rs)) (hl : rs.length ≤ 100) :
    Calls Tryz.prog 12 #[.agg #[v]] w fun e w' => ∃ u, e = .returned u ∧ OwnI w' w.heap.size u (firstRaw rs) ∧ Ext Nope w w' := by
  have HIN := toHid hin
  have HINC := toHid hi
  obtain ⟨av, cv, hv, hc1, hc2, hat⟩ := Rd.l_inv h
  rw [List.length_map] at hv hc1 hat
  replace hv : v = .slice av rs.length cv := by simpa using hv
  have HAT := toHid hat
  obtain ⟨n, HN⟩ : ∃ n, Hid (rs.length = n) := ⟨_, rfl⟩
  rw [HN.out] at hv hl hc1
  subst hv
  obtain ⟨i0, hi0, hz0, hz1, hz2⟩ := info_parts info3
  have HI := toHid (show _ ∧ _ ∧ _ ∧ _ from ⟨hi0, hz0, hz1, hz2⟩)
  clear h hin hi hat hi0 hz0 hz1 hz2
  go_enter Tryz.func12, Tryz.ntmps12
  go_wp2_with fail
  have e1 : Ext Nope w (w.alloc (.cells #[.slice av n cv] 66)) := (Ext.refl _ _).alloc _
  have H1 := toHid e1
  generalize w.alloc (.cells #[.slice av n cv] 66) = w1 at *
  clear e1
  go_loopw [9, 3] (fun i o wr => ∃ k : Nat, i = .int .i64 k ∧ k ≤ n ∧ OwnI wr w.heap.size o (firstRaw (rs.take k)) ∧ Ext Nope w wr) (fun i _ _ => n - (intOf i).toNat)
  case atStart => exact ⟨0, rfl, Nat.zero_le _, OwnI.nil _ _, H1.out⟩
  case round =>
    obtain ⟨k, rfl, hk, hO, hE⟩ := hrel
    rename World => wr
    obtain ⟨ao, co, ho, _⟩ := own_gen (show wr.ownsRow w.heap.size 3 1 u3 (firstRaw (rs.take k)).length _ from hO)
    have hlen := firstRaw_len HIN.out k (by rw [HN.out]; exact hk)
    obtain ⟨m, HM⟩ : ∃ m, Hid ((firstRaw (rs.take k)).length = m) := ⟨_, rfl⟩
    rw [HM.out] at ho hlen
    subst ho
    have HK := toHid (show _ ∧ _ from ⟨hO, hE⟩)
    clear hO hE
    by_cases hkn : k < n
    · obtain ⟨r, hr⟩ := nth_some hkn HN.out
      obtain ⟨s, t, hs1, hs2, hs3⟩ := HIN.out r (List.mem_of_getElem? hr)
      obtain ⟨b, off, rfl, _, hb, hrows⟩ := HAT.out (by rw [HN.out]; omega)
      obtain ⟨us, _, hu2, hrd⟩ := hrows k (ruleD r) (by rw [List.getElem?_map, hr]; rfl)
      obtain ⟨v0, _, rfl, h0, hrd⟩ := Rd.rl hrd
      obtain ⟨v1, _, rfl, h1, hrd⟩ := Rd.rl hrd
      obtain ⟨v2, _, rfl, h2, hrd⟩ := Rd.rl hrd
      obtain ⟨v3, _, rfl, h3, hrd⟩ := Rd.rl hrd
      obtain ⟨v4, _, rfl, h4, hrd⟩ := Rd.rl hrd
      obtain rfl := hrd.r_nil
      obtain ⟨a0, c0, hv0, _⟩ := h0.len
      obtain ⟨a1, k1, hv1, hk1, _, hat1⟩ := h1.l_inv
      obtain ⟨a2, c2, hv2, _⟩ := h2.len
      obtain ⟨a3, c3, hv3, _⟩ := h3.len
      obtain ⟨a4, c4, hv4, _⟩ := h4.len
      rw [hs1] at hv1 hat1 hk1
      simp only [List.map_cons, List.length_cons, List.length_map] at hv1 hat1 hk1
      replace hv1 : v1 = .slice a1 (t.length + 1) k1 := by simpa using hv1
      obtain ⟨b1, off1, rfl, _, hb1, hel⟩ := hat1 (by omega)
      obtain ⟨us1, _, hu1, hrs⟩ := hel 0 (intsD s) rfl
      obtain ⟨vs, rfl, hrs'⟩ : ∃ vs, us1 = [vs] ∧ Rd A w [vs] (intsD s) := by
        obtain ⟨a, c, hvs, _⟩ := hrs.l_inv
        exact ⟨_, hvs, by rw [hvs] at hrs; exact hrs⟩
      obtain ⟨asl, cs, hvs, hcs1, hcs2, hi64, hcell⟩ := hrs'.ints_inv
      obtain ⟨bs, offs, rfl, _, hbs, hcell⟩ := hcell hs2
      have keep : ∀ {b' o' : Nat} {u : Value}, b' < w.heap.size → w.cell? ⟨b', o', none⟩ = some u → wr.cell? ⟨b', o', none⟩ = some u := fun hb' hc => (World.cell?_of_block (w := w) (HK.out.2.block _ hb' (fun z => z))).trans hc
      have d0 : wr.cell? ⟨b, off + k * 5, none⟩ = some v0 := keep hb (by simpa using hu2 0 _ rfl)
      have d1 : wr.cell? ⟨b, off + k * 5 + 1, none⟩ = some v1 := keep hb (by simpa using hu2 1 _ rfl)
      have d2 : wr.cell? ⟨b, off + k * 5 + 2, none⟩ = some v2 := keep hb (by simpa using hu2 2 _ rfl)
      have d3 : wr.cell? ⟨b, off + k * 5 + 3, none⟩ = some v3 := keep hb (by simpa using hu2 3 _ rfl)
      have d4 : wr.cell? ⟨b, off + k * 5 + 4, none⟩ = some v4 := keep hb (by simpa using hu2 4 _ rfl)
      have x0 : w.cell? ⟨b1, off1, none⟩ = some vs := by simpa using hu1 0 _ rfl
      generalize hgn : t.length = nt at hv1
      generalize hgs : s.length = ns at hvs hs2 hs3
      have HGS := toHid hgs
      generalize (r.back.map intsD).length = n0 at hv0
      generalize (r.ahead.map intsD).length = n2 at hv2
      generalize (r.out.map Dat.i).length = n3 at hv3
      generalize (r.calls.map pairD).length = n4 at hv4
      subst hv0 hv1 hv2 hv3 hv4 hvs
      have ht1 : (0 : Int) < ((nt : Int) + 1) := by omega
      have s1 : (0 : Int) ≤ (k : Int) := by omega
      have s2 : (k : Int) < (n : Int) := by omega
      have s3 : IntKind.i64.wrap ((k : Int) + 1) = (k : Int) + 1 := IntWalk.i64_in _ (by omega)
      have HC := toHid (show _ ∧ _ ∧ _ ∧ _ ∧ _ from ⟨hcell, hbs, x0, hb1, (show _ ∧ _ from ⟨hr, hs1⟩)⟩)
      clear hgn hgs hcell hu1 hu2 hrows hel hat1 h0 h1 h2 h3 h4 hrs hrs' hi64 hs1 hr keep hb1 hbs x0
      go_upto_region 5 with fail
      have ea : Ext Nope w (wr.alloc (.cells #[.slice a0 n0 c0, .slice (some ⟨b1, off1, none⟩) (nt + 1) k1, .slice a2 n2 c2, .slice a3 n3 c3, .slice a4 n4 c4] 81)) := HK.out.2.alloc _
      have oa : OwnI (wr.alloc (.cells #[.slice a0 n0 c0, .slice (some ⟨b1, off1, none⟩) (nt + 1) k1, .slice a2 n2 c2, .slice a3 n3 c3, .slice a4 n4 c4] 81)) w.heap.size (.slice ao m co) (firstRaw (rs.take k)) := HK.out.1.ext0 ((Ext.refl _ _).alloc _)
      have hY := heap_alloc_new wr (.cells #[.slice a0 n0 c0, .slice (some ⟨b1, off1, none⟩) (nt + 1) k1, .slice a2 n2 c2, .slice a3 n3 c3, .slice a4 n4 c4] 81)
      have y1 := (rule_cells5 hY)
      clear d0 d1 d2 d3 d4 hY
      obtain ⟨Y, HY⟩ : ∃ Y, Hid (wr.heap.size = Y) := ⟨_, rfl⟩
      rw [HY.out] at y1 ⊢
      generalize wr.alloc (.cells #[.slice a0 n0 c0, .slice (some ⟨b1, off1, none⟩) (nt + 1) k1, .slice a2 n2 c2, .slice a3 n3 c3, .slice a4 n4 c4] 81) = wa at *
      have z0 : wa.cell? ⟨b1, off1, none⟩ = some (.slice (some ⟨bs, offs, none⟩) ns cs) := (World.cell?_of_block (w := w) (ea.block _ HC.out.2.2.2.1 (fun z => z))).trans HC.out.2.2.1
      have HX := toHid (show _ ∧ _ from ⟨ea, oa⟩)
      have hown : wa.ownsRow w.heap.size 3 1 (.slice ao m co) m (intCells (firstRaw (rs.take k))) := by
        have h := oa
        unfold OwnI at h
        rw [HM.out] at h
        exact h
      have hlc : (intCells s).length = ns * 1 := by rw [Nat.mul_one]; unfold intCells; rw [List.length_map]; exact HGS.out
      have hsrc : ∀ (j : Nat) (u : Value), (intCells s)[j]? = some u → wa.cell? (Addr.add ⟨bs, offs, none⟩ j) = some u := fun j u hj => by
        unfold intCells at hj
        rw [List.getElem?_map] at hj
        obtain ⟨x, hx, rfl⟩ := Option.map_eq_some_iff.1 hj
        have hadd : Addr.add ⟨bs, offs, none⟩ j = ⟨bs, offs + j, none⟩ := by unfold Addr.add; split <;> simp_all
        rw [hadd]
        exact (World.cell?_of_block (w := w) (HX.out.1.block _ HC.out.2.1 (fun z => z))).trans (HC.out.1 j x hx)
      have hsz := ea.size
      clear ea oa
      obtain ⟨hi0, hz0, hz1, hz2⟩ := HI.out
      go_wp2_with (first | (at_builtin; refine wpList_append_own _ rfl (.tmp 17) (.tmp 21) 24 rfl w.heap.size 3 i0 _ 1 8 Tryz.underlying24 hi0 hz0 hz1 hz2 rfl (by decide) _ _ _ rfl hown ⟨bs, offs, none⟩ ns cs (intCells s) rfl hlc hsrc (int_one _) (by unfold maxLen; omega) (by omega) (by omega) ?_))
      intro v' w3 hown3 hgrow0 _
      have hgrow : World.grownBy _ w3 (Value.slice ao m co).ownBlock := hgrow0
      clear hgrow0
      have hO3 : OwnI w3 w.heap.size v' (firstRaw (rs.take (k + 1))) := by
        rw [firstRaw_snoc HC.out.2.2.2.2.1 HC.out.2.2.2.2.2]
        unfold OwnI intCells
        rw [List.length_append, HM.out, HGS.out, List.map_append]
        exact hown3
      have HW := toHid (show _ ∧ _ from ⟨hO3, Ext.grown HX.out.1 hgrow (fun g hg hlt => absurd hlt (by have := (World.ownsRow.lt hown g hg).1; omega))⟩)
      clear hown3 hgrow hown hi0 hz0 hz1 hz2 hO3 y1 z0
      go_wp2
      go_roundw
      case rel => exact ⟨k + 1, by go_num, by omega, HW.out.1, HW.out.2⟩
      case measure => simp [intOf]; omega
    · have hkk : k = n := by omega
      subst hkk
      have hO : OwnI wr w.heap.size (.slice ao m co) (firstRaw rs) := by
        have h := HK.out.1
        rwa [List.take_of_length_le (by rw [HN.out]; exact Nat.le_refl _)] at h
      have hle : (firstRaw rs).length ≤ 100000 := by
        have h := HM.out
        rw [List.take_of_length_le (by rw [HN.out]; exact Nat.le_refl _)] at h
        omega
      have hi64 : ∀ x ∈ firstRaw rs, i64 x := fun x hx => by
        unfold firstRaw at hx
        obtain ⟨r, hr, hxr⟩ := List.mem_flatMap.1 hx
        obtain ⟨j, hj⟩ := List.mem_iff_getElem?.1 hr
        have hjl := (List.getElem?_eq_some_iff.1 hj).1
        obtain ⟨b, off, _, _, _, hrows⟩ := HAT.out (by omega)
        obtain ⟨us, _, _, hrd⟩ := hrows j (ruleD r) (by rw [List.getElem?_map, hj]; rfl)
        obtain ⟨v0, _, rfl, h0, hrd⟩ := Rd.rl hrd
        obtain ⟨v1, _, rfl, h1, hrd⟩ := Rd.rl hrd
        obtain ⟨s, t, hs1, _, _⟩ := HIN.out r hr
        rw [hs1] at hxr h1
        obtain ⟨_, _, _, _, _, hat1⟩ := h1.l_inv
        obtain ⟨_, _, _, _, _, hel⟩ := hat1 (by simp)
        obtain ⟨us1, _, _, hrs⟩ := hel 0 (intsD s) rfl
        obtain ⟨a, c, hvs, _⟩ := hrs.l_inv
        rw [hvs] at hrs
        obtain ⟨_, _, _, _, _, h6, _⟩ := hrs.ints_inv
        exact h6 x hxr
      have HF := toHid (norm_calls (A := fun _ => True) (hO.rd (fun _ _ => trivial) hi64) HINC.out hle)
      have HO2 := toHid HK.out.2
      clear hO hi64 hle
      go_wp2_with fail
      refine HF.out.mono ?_
      rintro e w2 ⟨u, rfl, o2, e2⟩
      have H2 := toHid (show _ ∧ _ from ⟨o2.mono HO2.out.size, ext0 HO2.out e2⟩)
      clear o2 e2 HF
      go_wp2
      go_ret
      exact ⟨_, rfl, H2.out.1, H2.out.2⟩
end Go.Proofs.YtajebdpalnpjdaaGreatDoor
namespace Go.Proofs.YtajebdpalnpjdaaGreatDoor
open Go.RowKit
attribute [local go_sem] alloc_drewN setCell_drewN

/-- Heads whose first glyphs are filled in, as far as there are some. -/
def hFill : List Int → List Value → List (Int × Value)
  | [], _ => []
  | h :: t, [] => (h, .slice none 0 0) :: hFill t []
  | h :: t, v :: us => (h, v) :: hFill t us
theorem hFill_len : ∀ (hs : List Int) (us : List Value), (hFill hs us).length = hs.length
  | [], _ => rfl
  | h :: t, [] => by simp [hFill, hFill_len t []]
  | h :: t, v :: us => by simp [hFill, hFill_len t us]
theorem hFill_set : ∀ (hs : List Int) (us : List Value) (u : Value), us.length < hs.length → (hCells (hFill hs us)).set (us.length * 2 + 1) u = hCells (hFill hs (us ++ [u]))
  | h :: t, [], u, _ => by
    cases t <;> rfl
  | h :: t, v :: us, u, hl => by
    have ih := hFill_set t us u (by simpa using hl)
    show ([.int .i64 h, v] ++ hCells (hFill t us)).set ((us.length + 1) * 2 + 1) u = [.int .i64 h, v] ++ hCells (hFill t (us ++ [u]))
    rw [← ih, show (us.length + 1) * 2 + 1 = (us.length * 2 + 1) + 1 + 1 by omega]
    rfl
theorem hFill_at : ∀ (hs : List Int) (us : List Value), us.length < hs.length → (hCells (hFill hs us))[us.length * 2 + 1]? = some (.slice none 0 0)
  | h :: t, [], _ => by cases t <;> rfl
  | h :: t, v :: us, hl => by
    have ih := hFill_at t us (by simpa using hl)
    show ([.int .i64 h, v] ++ hCells (hFill t us))[(us.length + 1) * 2 + 1]? = _
    rw [← ih, show (us.length + 1) * 2 + 1 = (us.length * 2 + 1) + 1 + 1 by omega]
    rfl
/-- What is to be known of a font when its lines are read. -/
structure Ready (w W : World) (R : World → FV → Int → Prop) (f : FV) (err : Int) (n base bh bl : Nat) (hs : List Int) (vs : List Value) (fs : Nat → List Int) : Prop where
  ha : f.hd.a = some ⟨bh, 0, none⟩
  hn : f.hd.n = n
  la : f.lk.a = some ⟨bl, 0, none⟩
  ln : f.lk.n = n
  hb : w.heap.size + 1 < base
  few : n ≤ 100
  hl : hs.length = n
  vl : vs.length = n
  heads : OwnH W base f.hd.v (hFill hs [])
  looks : OwnL W base f.lk.v vs
  first : ∀ i v, vs[i]? = some v → (∃ a m c, v = .slice a m c) ∧ ∀ W', Ext (fun b => b = bh) W W' → Calls Tryz.prog 12 #[.agg #[v]] W' fun e w' => ∃ u, e = .returned u ∧ OwnI w' W'.heap.size u (fs i) ∧ Ext Nope W' w'
  check : ∀ W' us, Ext (fun b => b = bh) W W' → OwnH W' base f.hd.v (hFill hs us) → us.length = n → (∀ i u, us[i]? = some u → OwnI W' W.heap.size u (fs i)) →
    (∀ W'', Ext Nope W' W'' → Calls Tryz.prog 13 #[f.counted.val] W'' fun e w' => e = .returned (.int .i64 err) ∧ Ext Nope W'' w') ∧ R W' f.counted err
set_option maxRecDepth 100000 in
set_option maxHeartbeats 1500000 in
/-- source.Parse of lines, of fonts with lookups. -/
theorem parse_goes2 {w : World} (G : Glob w) (hg : 11 ≤ w.heap.size) {ls : List ByteArray} (hl : ∀ l ∈ ls, (10 : UInt8) ∉ l.data.toList) (h1 : 0 < ls.length) (hs : (textB ls ⟨#[]⟩).size ≤ 100000)
    {St : Nat → World → Prop} (hSt : ∀ k W W', St k W → Ext Nope W W' → St k W') (h0 : ∀ W, Ext Nope w W → RB W (w.heap.size + 1) cells0 (.slice none 0 0) → St 0 W)
    (hstep : ∀ k l W, ls[k]? = some l → St k W → Ext Nope w W → Calls Tryz.prog 11 #[ptr (w.heap.size + 1), .string l] W fun e w' => e = .returned (.bool true) ∧ St (k + 1) w' ∧ Ext (fun b => w.heap.size < b) W w')
    {R : World → FV → Int → Prop}
    (hend : ∀ W, St ls.length W → Ext Nope w W → ∃ (f : FV) (bf v : Value) (err : Int) (n base bh bl : Nat) (hs : List Int) (vs : List Value) (fs : Nat → List Int), RB W (w.heap.size + 1) (f.cells ++ [bf]) v ∧ Ready w W R f err n base bh bl hs vs fs) :
    Calls Tryz.prog 6 #[.string (textB ls ⟨#[]⟩)] w fun e w' => ∃ W f err, Ext Nope w W ∧ R W f err ∧ Ext (fun b => b = w.heap.size) W w' ∧ e = .returned (.tuple #[if err = 0 then FV.val f else noFont, .int .i64 0, .int .i64 err]) := by
  have HG := toHid G
  have HL := toHid hl
  obtain ⟨r, Hr⟩ : ∃ r : ByteArray, Hid ((⟨#[]⟩ : ByteArray) = r) := ⟨_, rfl⟩
  rw [Hr.out] at hs ⊢
  have HR := toHid (show _ ∧ _ from ⟨h1, hs⟩)
  obtain ⟨K, HKK⟩ : ∃ K, Hid (ls.length = K) := ⟨_, rfl⟩
  have HE := toHid hend
  have HSt := toHid hSt
  have H0 := toHid h0
  have HS := toHid hstep
  obtain ⟨jt, HJ⟩ : ∃ jt, Hid (textB ls r = jt) := ⟨_, rfl⟩
  rw [HJ.out]
  clear G hl hs hSt h0 hstep hend
  go_enter Tryz.func6, Tryz.ntmps6
  go_wp2_with fail
  have e1 : Ext Nope w ((w.alloc (.cells fontCells 36)).alloc (.cells (cells0 ++ [Value.slice none 0 0]).toArray 61)) := ((Ext.refl _ _).alloc _).alloc _
  have b1 : RB ((w.alloc (.cells fontCells 36)).alloc (.cells (cells0 ++ [Value.slice none 0 0]).toArray 61)) (w.heap.size + 1) cells0 (.slice none 0 0) := ⟨heap_alloc_at _ _ _ (alloc_size1 w _).symm, rfl⟩
  have hz1 : ((w.alloc (.cells fontCells 36)).alloc (.cells (cells0 ++ [Value.slice none 0 0]).toArray 61)).heap[w.heap.size]? = some (.cells fontCells 36 (0, 0)) := (heap_alloc_old _ _ _ (by rw [alloc_size1]; exact Nat.lt_succ_self _)).trans (heap_alloc_new w _)
  have H1 := toHid (show _ ∧ _ ∧ _ from ⟨H0.out _ e1 b1, e1, hz1⟩)
  clear e1 b1 hz1 H0
  go_loopw [6, 0] (fun n s wr => ∃ k : Nat, n = .int .i64 ((k : Int) + 1) ∧ s = .string (textB (ls.drop k) r) ∧ k ≤ K ∧ St k wr ∧ Ext Nope w wr ∧ wr.heap[w.heap.size]? = some (.cells fontCells 36 (0, 0))) (fun n _ _ => K + 2 - (intOf n).toNat)
  case atStart => exact ⟨0, rfl, by rw [← HJ.out]; rfl, Nat.zero_le _, H1.out⟩
  case round =>
    obtain ⟨k, rfl, rfl, hk, hSk, hE, hz⟩ := hrel
    rename World => wr
    obtain ⟨m, hm⟩ := (HG.out.ext0 hE).max
    have hsz : (textB (ls.drop k) r).size ≤ 100000 := Nat.le_trans (textB_drop ls r k) HR.out.2
    have HW := toHid (show _ ∧ _ ∧ _ from ⟨hSk, hE, hz⟩)
    clear hSk hE hz
    by_cases hkl : k < ls.length
    · obtain ⟨l, hlk⟩ : ∃ l, ls[k]? = some l := ⟨_, List.getElem?_eq_getElem hkl⟩
      have e : ls.drop k = l :: ls.drop (k + 1) := by rw [List.drop_eq_getElem_cons (List.getElem?_eq_some_iff.1 hlk).1, (List.getElem?_eq_some_iff.1 hlk).2]
      rw [e] at hsz ⊢
      have hne : ((textB (l :: ls.drop (k + 1)) r).toList == []) = false := textB_ne l _ r
      have HCut := toHid (cut_line hm (HL.out l (List.mem_of_getElem? hlk)) hsz)
      clear hsz hm e
      obtain ⟨tt, HT⟩ : ∃ tt, Hid (textB (l :: ls.drop (k + 1)) r = tt) := ⟨_, rfl⟩
      rw [HT.out] at HCut hne ⊢
      obtain ⟨tn, HTN⟩ : ∃ tn, Hid (textB (ls.drop (k + 1)) r = tn) := ⟨_, rfl⟩
      rw [HTN.out] at HCut
      have hlen : ls.length ≤ 100000 := Nat.le_trans (textB_len ls r) HR.out.2
      have s1 : IntKind.i64.wrap ((k : Int) + 1 + 1) = (k : Int) + 1 + 1 := IntWalk.i64_in _ (by omega)
      by_cases hk0 : ((k : Int) = 0)
      all_goals
        go_wp2_with fail
        refine HCut.out.mono ?_
        rintro e w2 ⟨rfl, e2⟩
        have H2 := toHid (show _ ∧ _ ∧ _ from ⟨HSt.out _ _ _ HW.out.1 e2, ext0 HW.out.2.1 e2, (e2.block _ (lt_of_heap HW.out.2.2) (fun z => z)).trans HW.out.2.2⟩)
        clear e2
        go_wp2_with fail
        have hkK : k < K := by rw [← HKK.out]; exact hkl
        refine (HS.out k l w2 hlk H2.out.1 H2.out.2.1).mono ?_
        rintro e w3 ⟨rfl, s3, e3⟩
        have H3 := toHid (show _ ∧ _ ∧ _ from ⟨s3, (H2.out.2.1.trans e3 (fun b hb z => by omega) : Ext Nope w w3), (e3.block _ (lt_of_heap H2.out.2.2) (fun z => absurd z (Nat.lt_irrefl _))).trans H2.out.2.2⟩)
        clear s3 e3
        go_wp2_with fail
        refine ⟨⟨k + 1, congrArg (Value.int .i64) (by omega), by rw [HTN.out], hkK, H3.out⟩, ?_⟩
        simp only [intOf]
        omega
    · have hkK : k = K := by have := HKK.out; omega
      subst hkK
      have e : ls.drop k = [] := List.drop_eq_nil_of_le (by have := HKK.out; omega)
      rw [e, textB_nil] at hsz ⊢
      have hk0 : ¬ ((k : Int) = 0) := by have := HKK.out; have := HR.out.1; omega
      have hne : (r.toList == []) = true := by rw [← Hr.out, ByteArray.toList_eq]; rfl
      clear hsz hm e hkl
      obtain ⟨⟨nm, ver, ⟨a2, n2, k2⟩, ⟨a3, n3, k3⟩, cnt, ⟨a5, n5, k5⟩, ⟨a6, n6, k6⟩, ⟨a7, n7, k7⟩, rt, ⟨al, nl, cl⟩, ⟨ag, ng, cg⟩⟩, bf, v, err, nn, base, bh, bl, hs, vs, fs, hrb, hready⟩ := HE.out wr (by rw [HKK.out]; exact HW.out.1) HW.out.2.1
      have e1 : a7 = some ⟨bh, 0, none⟩ := hready.ha
      have e2 : n7 = nn := hready.hn
      have e3 : al = some ⟨bl, 0, none⟩ := hready.la
      have e4 : nl = nn := hready.ln
      subst e1 e2 e3
      have e4' : n7 = nl := e4.symm
      clear e4
      subst e4'
      have c0 : wr.cell? ⟨w.heap.size + 1, 0, none⟩ = some (.string nm) := hrb.cell (by omega)
      have c1 : wr.cell? ⟨w.heap.size + 1, 1, none⟩ = some (.int .i64 ver) := hrb.cell (by omega)
      have c2 : wr.cell? ⟨w.heap.size + 1, 2, none⟩ = some (.slice a2 n2 k2) := hrb.cell (by omega)
      have c3 : wr.cell? ⟨w.heap.size + 1, 3, none⟩ = some (.slice a3 n3 k3) := hrb.cell (by omega)
      have c4 : wr.cell? ⟨w.heap.size + 1, 4, none⟩ = some (.int .i64 cnt) := hrb.cell (by omega)
      have c5 : wr.cell? ⟨w.heap.size + 1, 5, none⟩ = some (.slice a5 n5 k5) := hrb.cell (by omega)
      have c6 : wr.cell? ⟨w.heap.size + 1, 6, none⟩ = some (.slice a6 n6 k6) := hrb.cell (by omega)
      have c7 : wr.cell? ⟨w.heap.size + 1, 7, none⟩ = some (.slice (some ⟨bh, 0, none⟩) n7 k7) := hrb.cell (by omega)
      have c8 : wr.cell? ⟨w.heap.size + 1, 8, none⟩ = some (.string rt) := hrb.cell (by omega)
      have c9 : wr.cell? ⟨w.heap.size + 1, 9, none⟩ = some (.slice (some ⟨bl, 0, none⟩) n7 cl) := hrb.cell (by omega)
      have c10 : wr.cell? ⟨w.heap.size + 1, 10, none⟩ = some (.slice ag ng cg) := hrb.cell (by omega)
      have HX := toHid hready
      clear hready hrb
      go_wp2_with fail
      have e6 : Ext Nope wr (wr.alloc (.cells #[.string nm, .int .i64 ver, .slice a2 n2 k2, .slice a3 n3 k3, .int .i64 ng, .slice a5 n5 k5, .slice a6 n6 k6, .slice (some ⟨bh, 0, none⟩) n7 k7, .string rt, .slice (some ⟨bl, 0, none⟩) n7 cl, .slice ag ng cg] 36)) := (Ext.refl _ _).alloc _
      have hz6 : (wr.alloc (.cells #[.string nm, .int .i64 ver, .slice a2 n2 k2, .slice a3 n3 k3, .int .i64 ng, .slice a5 n5 k5, .slice a6 n6 k6, .slice (some ⟨bh, 0, none⟩) n7 k7, .string rt, .slice (some ⟨bl, 0, none⟩) n7 cl, .slice ag ng cg] 36)).heap[wr.heap.size]? = some (.cells #[.string nm, .int .i64 ver, .slice a2 n2 k2, .slice a3 n3 k3, .int .i64 ng, .slice a5 n5 k5, .slice a6 n6 k6, .slice (some ⟨bh, 0, none⟩) n7 k7, .string rt, .slice (some ⟨bl, 0, none⟩) n7 cl, .slice ag ng cg] 36 (0, 0)) := heap_alloc_new wr _
      obtain ⟨fb, HFB⟩ : ∃ fb, Hid (wr.heap.size = fb) := ⟨_, rfl⟩
      rw [HFB.out] at hz6 ⊢
      generalize wr.alloc _ = w6 at *
      clear c0 c1 c2 c3 c4 c5 c6 c7 c8 c9 c10
      have H6 := toHid (show _ ∧ _ from ⟨e6, hz6⟩)
      obtain ⟨d0, d1, d2, d3, d4, d5, d6, d7, d8, d9, d10⟩ := font_cells hz6
      clear e6 hz6
      generalize ((k : Int) + 1 == 1) = bq
      clear hk0
      have hno := hFill_len hs []
      rw [HX.out.hl] at hno
      have hbase := HX.out.hb
      have hbh : base ≤ bh ∧ bh < wr.heap.size := World.ownsRow.lt HX.out.heads bh (by simp [Value.ownBlock])
      have hbl : base ≤ bl ∧ bl < wr.heap.size := World.ownsRow.lt HX.out.looks bl (by simp [Value.ownBlock])
      have hne : bl ≠ bh := fun z => own_apart HX.out.looks HX.out.heads (by decide) bl (by simp [Value.ownBlock]) (by rw [z]; simp [Value.ownBlock])
      clear d0 d1 d2 d3 d4 d5 d6 d7 d8 d9 d10
      have H6' : OwnH w6 base (.slice (some ⟨bh, 0, none⟩) n7 k7) (hFill hs []) := own_ext HX.out.heads H6.out.1 (fun _ _ z => z)
      have HH6 := toHid H6'
      clear H6'
      go_loopw [53] (fun i wv => ∃ (k : Nat) (us : List Value), i = .int .i64 k ∧ k ≤ n7 ∧ us.length = k ∧ OwnH wv base (.slice (some ⟨bh, 0, none⟩) n7 k7) (hFill hs us) ∧ (∀ i u, us[i]? = some u → OwnI wv wr.heap.size u (fs i)) ∧ Ext (fun b => b = bh) wr wv ∧
        wv.heap[fb]? = some (.cells #[.string nm, .int .i64 ver, .slice a2 n2 k2, .slice a3 n3 k3, .int .i64 ng, .slice a5 n5 k5, .slice a6 n6 k6, .slice (some ⟨bh, 0, none⟩) n7 k7, .string rt, .slice (some ⟨bl, 0, none⟩) n7 cl, .slice ag ng cg] 36 (0, 0))) (fun i _ => n7 - (intOf i).toNat)
      case atStart => exact ⟨0, [], rfl, Nat.zero_le _, rfl, HH6.out, fun i u h => by simp at h, H6.out.1.mono (fun _ z => z.elim), H6.out.2⟩
      case round =>
        obtain ⟨k, us, rfl, hk, hul, hOH, hOu, hE6, hz6⟩ := hrel
        rename World => wv
        have H7 := toHid (show _ ∧ _ ∧ _ ∧ _ ∧ _ from ⟨hOH, hOu, hE6, hz6, hul⟩)
        clear hOH hOu hE6 hz6 hul
        by_cases hkn : k < n7
        · obtain ⟨vv, hvv⟩ := nth_some hkn HX.out.vl
          obtain ⟨⟨aq, mq, cq, rfl⟩, hF⟩ := HX.out.first k vv hvv
          have HF := toHid hF
          have hfb : fb < wv.heap.size := lt_of_heap H7.out.2.2.2.1
          have cl0 : wv.cell? ⟨bl, k, none⟩ = some (.slice aq mq cq) := (World.cell?_of_block (w := wr) (a := ⟨bl, k, none⟩) (H7.out.2.2.1.block bl hbl.2 (fun z => hne z))).trans (own_cell (by have h := HX.out.looks; unfold OwnL at h; exact h) hvv)
          have s1 : (0 : Int) ≤ (k : Int) := by omega
          have s2 : (k : Int) < (n7 : Int) := by omega
          have s3 : IntKind.i64.wrap ((k : Int) + 1) = (k : Int) + 1 := IntWalk.i64_in _ (by have := HX.out.few; omega)
          have HKN := toHid hkn
          clear hF hvv
          go_upto_region 14 with fail
          have ea : Ext Nope wv (wv.alloc (.cells #[.slice aq mq cq] 66)) := (Ext.refl _ _).alloc _
          have hY := heap_alloc_new wv (.cells #[.slice aq mq cq] 66)
          have hzf := (heap_alloc_old wv (.cells #[.slice aq mq cq] 66) fb hfb).trans H7.out.2.2.2.1
          obtain ⟨Y, HY⟩ : ∃ Y, Hid (wv.heap.size = Y) := ⟨_, rfl⟩
          rw [HY.out] at hY ⊢
          generalize wv.alloc (.cells #[.slice aq mq cq] 66) = wa at *
          have HA := toHid (show _ ∧ _ ∧ _ from ⟨ea, hY, hzf⟩)
          clear ea hY hzf cl0
          have hcells : ∀ W, Ext Nope wa W → W.cell? ⟨fb, 7, none⟩ = some (.slice (some ⟨bh, 0, none⟩) n7 k7) ∧ W.cell? ⟨Y, 0, none⟩ = some (.slice aq mq cq) := fun W e => by
            refine ⟨(font_cells ((e.block _ (lt_of_heap HA.out.2.2) (fun z => z)).trans HA.out.2.2)).2.2.2.2.2.2.2.1, ?_⟩
            rw [show (⟨Y, 0, none⟩ : Addr) = at_ Y 0 from rfl, cell_of_blk ((e.block _ (lt_of_heap HA.out.2.1) (fun z => z)).trans HA.out.2.1)]
            rfl
          have HCE := toHid hcells
          clear hcells
          refine wp_region_head 6 (fun w' => w'.cell? ⟨fb, 7, none⟩ = some (.slice (some ⟨bh, 0, none⟩) n7 k7) ∧ w'.cell? ⟨Y, 0, none⟩ = some (.slice aq mq cq)) (by kernel_rfl) (by kernel_rfl) (HCE.out _ (Ext.refl _ _).drew) (fun hO hHeld => ?_)
          refine wpAnyT_takeD (i := 0) (d := some 58) (v := ?_) hO rfl rfl (by kernel_rfl) (fun _ _ _ h => h) (Or.inl ⟨by rfl, ?_⟩) (by exact hHeld) ?_
          rotate_left
          · intro w' hSw
            obtain ⟨hx1, hx2⟩ := hSw
            go_simp
            try (with_reducible rfl)
          try simp only [Act.put, List.setIfInBounds_toArray, List.set_cons_zero, List.set_cons_succ]
          refine wpAnyT_takeD (i := 1) (d := some 59) (v := ?_) hO rfl rfl (by kernel_rfl) (fun _ _ _ h => h) (Or.inl ⟨by rfl, ?_⟩) (by exact hHeld) ?_
          rotate_left
          · intro w' hSw
            obtain ⟨hx1, hx2⟩ := hSw
            go_simp
            try (with_reducible rfl)
          try simp only [Act.put, List.setIfInBounds_toArray, List.set_cons_zero, List.set_cons_succ]
          refine wpAnyT_takeD (i := 2) (d := some 60) (v := ?_) hO rfl rfl (by kernel_rfl) (fun _ _ _ h => h) (Or.inl ⟨by rfl, ?_⟩) (by exact hHeld) ?_
          rotate_left
          · intro w' hSw
            obtain ⟨hx1, hx2⟩ := hSw
            go_simp
            try (with_reducible rfl)
          try simp only [Act.put, List.setIfInBounds_toArray, List.set_cons_zero, List.set_cons_succ]
          refine wpAnyT_takeD (i := 3) (d := some 61) (v := ?_) hO rfl rfl (by kernel_rfl) (fun _ _ _ h => h) (Or.inl ⟨by rfl, ?_⟩) (by exact hHeld) ?_
          rotate_left
          · intro w' hSw
            obtain ⟨hx1, hx2⟩ := hSw
            go_simp
            try (with_reducible rfl)
          try simp only [Act.put, List.setIfInBounds_toArray, List.set_cons_zero, List.set_cons_succ]
          refine wpAnyT_takeD (i := 4) (d := some 62) (v := ?_) hO rfl rfl (by kernel_rfl) (fun _ _ _ h => h) (Or.inl ⟨by rfl, ?_⟩) (by exact hHeld) ?_
          rotate_left
          · intro w' hSw
            obtain ⟨hx1, hx2⟩ := hSw
            go_simp
            try (with_reducible rfl)
          try simp only [Act.put, List.setIfInBounds_toArray, List.set_cons_zero, List.set_cons_succ]
          clear hHeld
          refine wpAnyT_one (i := 5) rfl (by kernel_rfl) (by rfl) (fun K hK => ?_)
          go_simp
          have ed : Ext (fun b => b = bh) wr wa.drew := (H7.out.2.2.1.trans (S := fun b => b = bh) (HA.out.1.mono (fun _ z => z.elim)) (fun _ _ z => z)).drew
          refine (HF.out _ ed).mono ?_
          rintro e w8 ⟨u, rfl, o8, e8⟩
          obtain ⟨ao, co, hu, _⟩ := own_gen o8
          generalize (fs k).length = nf at hu
          subst hu
          have e8' : Ext Nope wa w8 := ext0 (Ext.refl Nope wa).drew e8
          have c8 := HCE.out _ e8'
          have ewv : Ext Nope wv w8 := ext0 HA.out.1 e8'
          have o8' : OwnI w8 wr.heap.size (.slice ao nf co) (fs k) := o8.mono (by have := H7.out.2.2.1.size; have := HA.out.1.size; show _ ≤ wa.heap.size; omega)
          have hh8 : OwnH w8 base (.slice (some ⟨bh, 0, none⟩) n7 k7) (hFill hs us) := own_ext H7.out.1 ewv (fun _ _ z => z)
          have hul8 : us.length < hs.length := by rw [H7.out.2.2.2.2, HX.out.hl]; exact HKN.out
          have hcell : w8.cell? ⟨bh, k * 2 + 1, none⟩ = some (.slice none 0 0) := by
            have h := own_cell (by unfold OwnH at hh8; exact hh8) (hFill_at hs us hul8)
            rw [H7.out.2.2.2.2] at h
            exact h
          have hfree : w8.frozen? ⟨bh, k * 2 + 1, none⟩ = false := own_free (by unfold OwnH at hh8; exact hh8) _
          have H8 := toHid (show _ ∧ _ ∧ _ ∧ _ from ⟨ewv, o8', hh8, hul8⟩)
          clear e8 e8' ewv o8 o8' hh8 hul8 ed
          try go_simp
          refine hK.out _ _ c8 (fun _ => ?_)
          clear hK K c8
          try simp only [Act.put, List.setIfInBounds_toArray, List.set_cons_zero, List.set_cons_succ]
          refine wpAnyT_done (by kernel_rfl) ⟨by kernel_rfl, ?_⟩
          simp only [List.drop_succ_cons, List.drop_zero]
          go_wp2
          have e9 : Ext (fun b => b = bh) w8 (w8.setCell ⟨bh, k * 2 + 1, none⟩ (.slice ao nf co)) := Ext.setCell (S := fun b => b = bh) (Ext.refl _ _) bh _ (fun _ => rfl) _
          have ewv := H8.out.1
          have hown : w8.ownsRow base 55 2 (.slice (some ⟨bh, 0, none⟩) n7 k7) n7 (hCells (hFill hs us)) := by
            have h := H8.out.2.2.1
            unfold OwnH at h
            rw [hFill_len, HX.out.hl] at h
            exact h
          have hset := own_set hown (k * 2 + 1) (.slice ao nf co)
          have hf := hFill_set hs us (.slice ao nf co) H8.out.2.2.2
          rw [H7.out.2.2.2.2] at hf
          rw [hf] at hset
          have hnb : ∀ {u : Value} {s : List Int}, OwnI w8 wr.heap.size u s → OwnI (w8.setCell ⟨bh, k * 2 + 1, none⟩ (.slice ao nf co)) wr.heap.size u s := fun ho => own_ext ho e9 (fun g hg z => by have z : g = bh := z; have := (World.ownsRow.lt ho g hg).1; omega)
          have hfb9 := (e9.block fb (lt_of_heap ((ewv.block _ hfb (fun z => z)).trans H7.out.2.2.2.1)) (fun z => by have z : fb = bh := z; have := HFB.out; omega)).trans ((ewv.block _ hfb (fun z => z)).trans H7.out.2.2.2.1)
          have HW9 := toHid (show _ ∧ _ ∧ _ ∧ _ from ⟨hset, (fun i u hu => by
            by_cases hik : i < k
            · rw [List.getElem?_append_left (by rw [H7.out.2.2.2.2]; exact hik)] at hu
              exact hnb ((H7.out.2.1 i u hu).ext0 ewv)
            · have hl := (List.getElem?_eq_some_iff.1 hu).1
              rw [List.length_append, H7.out.2.2.2.2] at hl
              have hik : i = k := by simp at hl; omega
              subst hik
              rw [List.getElem?_append_right (by rw [H7.out.2.2.2.2]; exact Nat.le_refl _), H7.out.2.2.2.2, Nat.sub_self] at hu
              have hu : .slice ao nf co = u := by simpa using hu
              subst hu
              exact hnb H8.out.2.1 : ∀ i u, (us ++ [.slice ao nf co])[i]? = some u → OwnI (w8.setCell ⟨bh, k * 2 + 1, none⟩ (.slice ao nf co)) wr.heap.size u (fs i)),
            ((H7.out.2.2.1.trans (S := fun b => b = bh) (ewv.mono (fun _ z => z.elim)) (fun _ _ z => z)).trans e9 (fun _ _ z => z) : Ext (fun b => b = bh) wr (w8.setCell ⟨bh, k * 2 + 1, none⟩ (.slice ao nf co))), hfb9⟩)
          clear hset hf hnb hfb9 e9 ewv hown
          go_roundw
          case rel =>
            refine ⟨k + 1, us ++ [Value.slice ao nf co], by go_num, by omega, by rw [List.length_append, H7.out.2.2.2.2]; rfl, ?_, HW9.out.2.1, HW9.out.2.2.1, HW9.out.2.2.2⟩
            unfold OwnH
            rw [hFill_len, HX.out.hl]
            exact HW9.out.1
          case measure => simp [intOf]; omega
        have hkk : n7 = k := by omega
        subst hkk
        have H6 := toHid (show _ ∧ _ from ⟨H7.out.2.2.1, H7.out.2.2.2.1⟩)
        have HCK := toHid (HX.out.check wv us H7.out.2.2.1 H7.out.1 H7.out.2.2.2.2 H7.out.2.1)
        obtain ⟨d0, d1, d2, d3, d4, d5, d6, d7, d8, d9, d10⟩ := font_cells H7.out.2.2.2.1
        clear H7
        go_wp2_with fail
        refine (HCK.out.1 _ (Ext.refl _ _)).mono ?_
        rintro e w7 ⟨rfl, e7⟩
        have hnb : ¬ w.heap.size = bh := by omega
        have hzv := (H6.out.1.block _ (lt_of_heap HW.out.2.2) hnb).trans HW.out.2.2
        have hz7 := (e7.block _ (lt_of_heap hzv) (fun z => z)).trans hzv
        have c0 : w7.cell? ⟨w.heap.size, 0, none⟩ = some (.string ⟨#[]⟩) := by rw [show (⟨w.heap.size, 0, none⟩ : Addr) = at_ w.heap.size 0 from rfl, cell_of_blk hz7]; rfl
        have f0 : w7.frozen? ⟨w.heap.size, 0, none⟩ = false := free_of_blk hz7 0
        have c1 : w7.cell? ⟨w.heap.size, 1, none⟩ = some (.int .i64 0) := by rw [show (⟨w.heap.size, 1, none⟩ : Addr) = at_ w.heap.size 1 from rfl, cell_of_blk hz7]; rfl
        have f1 : w7.frozen? ⟨w.heap.size, 1, none⟩ = false := free_of_blk hz7 1
        have c2 : w7.cell? ⟨w.heap.size, 2, none⟩ = some (.slice none 0 0) := by rw [show (⟨w.heap.size, 2, none⟩ : Addr) = at_ w.heap.size 2 from rfl, cell_of_blk hz7]; rfl
        have f2 : w7.frozen? ⟨w.heap.size, 2, none⟩ = false := free_of_blk hz7 2
        have c3 : w7.cell? ⟨w.heap.size, 3, none⟩ = some (.slice none 0 0) := by rw [show (⟨w.heap.size, 3, none⟩ : Addr) = at_ w.heap.size 3 from rfl, cell_of_blk hz7]; rfl
        have f3 : w7.frozen? ⟨w.heap.size, 3, none⟩ = false := free_of_blk hz7 3
        have c4 : w7.cell? ⟨w.heap.size, 4, none⟩ = some (.int .i64 0) := by rw [show (⟨w.heap.size, 4, none⟩ : Addr) = at_ w.heap.size 4 from rfl, cell_of_blk hz7]; rfl
        have f4 : w7.frozen? ⟨w.heap.size, 4, none⟩ = false := free_of_blk hz7 4
        have c5 : w7.cell? ⟨w.heap.size, 5, none⟩ = some (.slice none 0 0) := by rw [show (⟨w.heap.size, 5, none⟩ : Addr) = at_ w.heap.size 5 from rfl, cell_of_blk hz7]; rfl
        have f5 : w7.frozen? ⟨w.heap.size, 5, none⟩ = false := free_of_blk hz7 5
        have c6 : w7.cell? ⟨w.heap.size, 6, none⟩ = some (.slice none 0 0) := by rw [show (⟨w.heap.size, 6, none⟩ : Addr) = at_ w.heap.size 6 from rfl, cell_of_blk hz7]; rfl
        have f6 : w7.frozen? ⟨w.heap.size, 6, none⟩ = false := free_of_blk hz7 6
        have c7 : w7.cell? ⟨w.heap.size, 7, none⟩ = some (.slice none 0 0) := by rw [show (⟨w.heap.size, 7, none⟩ : Addr) = at_ w.heap.size 7 from rfl, cell_of_blk hz7]; rfl
        have f7 : w7.frozen? ⟨w.heap.size, 7, none⟩ = false := free_of_blk hz7 7
        have c8 : w7.cell? ⟨w.heap.size, 8, none⟩ = some (.string ⟨#[]⟩) := by rw [show (⟨w.heap.size, 8, none⟩ : Addr) = at_ w.heap.size 8 from rfl, cell_of_blk hz7]; rfl
        have f8 : w7.frozen? ⟨w.heap.size, 8, none⟩ = false := free_of_blk hz7 8
        have c9 : w7.cell? ⟨w.heap.size, 9, none⟩ = some (.slice none 0 0) := by rw [show (⟨w.heap.size, 9, none⟩ : Addr) = at_ w.heap.size 9 from rfl, cell_of_blk hz7]; rfl
        have f9 : w7.frozen? ⟨w.heap.size, 9, none⟩ = false := free_of_blk hz7 9
        have c10 : w7.cell? ⟨w.heap.size, 10, none⟩ = some (.slice none 0 0) := by rw [show (⟨w.heap.size, 10, none⟩ : Addr) = at_ w.heap.size 10 from rfl, cell_of_blk hz7]; rfl
        have f10 : w7.frozen? ⟨w.heap.size, 10, none⟩ = false := free_of_blk hz7 10
        have hfb7 := (e7.block _ (lt_of_heap H6.out.2) (fun z => z)).trans H6.out.2
        obtain ⟨g0, g1, g2, g3, g4, g5, g6, g7, g8, g9, g10⟩ := font_cells hfb7
        have H7 := toHid (show _ ∧ _ from ⟨hz7, e7⟩)
        have EWV := toHid ((HW.out.2.1.trans (S := Nope) H6.out.1 (fun b hb z => by have z : b = bh := z; omega)) : Ext Nope w wv)
        clear hzv
        clear hz7 e7 hfb7 d0 d1 d2 d3 d4 d5 d6 d7 d8 d9 d10
        by_cases herr : err = 0
        · subst herr
          go_wp2_with fail
          obtain ⟨hz8, e8⟩ := store11 (v0 := (.string nm)) (v1 := (.int .i64 ver)) (v2 := (.slice a2 n2 k2)) (v3 := (.slice a3 n3 k3)) (v4 := (.int .i64 ng)) (v5 := (.slice a5 n5 k5)) (v6 := (.slice a6 n6 k6)) (v7 := (.slice (some ⟨bh, 0, none⟩) n7 k7)) (v8 := (.string rt)) (v9 := (.slice (some ⟨bl, 0, none⟩) n7 cl)) (v10 := (.slice ag ng cg)) H7.out.1
          generalize World.setCell _ _ _ = w8 at *
          obtain ⟨d0, d1, d2, d3, d4, d5, d6, d7, d8, d9, d10⟩ := font_cells hz8
          have e9 : Ext (fun b => b = w.heap.size) wv w8 := (H7.out.2.mono (fun _ z => z.elim)).trans e8 (fun b hb z => z)
          refine bodyPost_ret (v := .tuple #[.agg #[.string nm, .int .i64 ver, .slice a2 n2 k2, .slice a3 n3 k3, .int .i64 ng, .slice a5 n5 k5, .slice a6 n6 k6, .slice (some ⟨bh, 0, none⟩) n7 k7, .string rt, .slice (some ⟨bl, 0, none⟩) n7 cl, .slice ag ng cg], .int .i64 0, .int .i64 0]) ?_ rfl ⟨wv, _, _, EWV.out, HCK.out.2, e9, rfl⟩
          simp [results, Tryz.results6, go_sem, d0, d1, d2, d3, d4, d5, d6, d7, d8, d9, d10]
        · go_wp2_with fail
          obtain ⟨hz8, e8⟩ := store11 (v0 := (.string ⟨#[]⟩)) (v1 := (.int .i64 0)) (v2 := (.slice none 0 0)) (v3 := (.slice none 0 0)) (v4 := (.int .i64 0)) (v5 := (.slice none 0 0)) (v6 := (.slice none 0 0)) (v7 := (.slice none 0 0)) (v8 := (.string ⟨#[]⟩)) (v9 := (.slice none 0 0)) (v10 := (.slice none 0 0)) H7.out.1
          generalize World.setCell _ _ _ = w8 at *
          obtain ⟨d0, d1, d2, d3, d4, d5, d6, d7, d8, d9, d10⟩ := font_cells hz8
          have e9 : Ext (fun b => b = w.heap.size) wv w8 := (H7.out.2.mono (fun _ z => z.elim)).trans e8 (fun b hb z => z)
          refine bodyPost_ret (v := .tuple #[noFont, .int .i64 0, .int .i64 err]) ?_ rfl ⟨wv, _, _, EWV.out, HCK.out.2, e9, by rw [if_neg herr]⟩
          simp [results, Tryz.results6, go_sem, d0, d1, d2, d3, d4, d5, d6, d7, d8, d9, d10, noFont]
end Go.Proofs.YtajebdpalnpjdaaGreatDoor
