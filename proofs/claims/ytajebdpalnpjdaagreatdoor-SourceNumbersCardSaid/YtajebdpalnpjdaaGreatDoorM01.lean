/-
  Fonts as plain data, and how they stand in memory.
  The reader of a source: its block, what is left of a line, and the next part.
  Is there an element with some property? Lists that are looked through with a function.
-/
import Derived.Test.YtajebdpalnpjdaaGreatDoorM00
import Derived.Test.YtajebdpalnpjdaaGreatDoorProg
import Derived.WalkSmall
namespace Go.Proofs.YtajebdpalnpjdaaGreatDoor

structure AxisA where
  name : ByteArray
  min : Int
  dflt : Int
  max : Int
  map : List (Int × Int)
structure TentA where
  lo : Int
  peak : Int
  hi : Int
structure CharA where
  code : Int
  glyph : Int
  width : Int
  wide : List (Int × Int)
structure PairA where
  left : Int
  right : Int
  by_ : Int
structure HeadA where
  feature : Int
  first : List Int
structure CoreA where
  name : ByteArray
  version : Int
  axes : List AxisA
  regions : List (List TentA)
  glyphs : Int
  chars : List CharA
  pairs : List PairA
  heads : List HeadA
  root : ByteArray
structure RuleA where
  back : List (List Int)
  in_ : List (List Int)
  ahead : List (List Int)
  out : List Int
  calls : List (Int × Int)
abbrev LookupA := List RuleA
structure PtA where
  x : Int
  y : Int
  on : Bool
structure AnchorA where
  cls : Int
  x : Int
  y : Int
structure DeltaA where
  region : Int
  advance : Int
  moves : List (Int × Int)
structure GlyphA where
  contours : List (List PtA)
  anchors : List AnchorA
  hang : AnchorA
  advance : Int
  deltas : List DeltaA
  program : List (Int × Int)
structure FontA where
  core : CoreA
  lookups : List LookupA
  glyphs : List GlyphA

def pairD (p : Int × Int) : Dat := .r [.i p.1, .i p.2]
def axisD (a : AxisA) : Dat := .r [.s a.name, .i a.min, .i a.dflt, .i a.max, .l 2 (a.map.map pairD)]
def tentD (t : TentA) : Dat := .r [.i t.lo, .i t.peak, .i t.hi]
def regionD (r : List TentA) : Dat := .r [.l 3 (r.map tentD)]
def charD (c : CharA) : Dat := .r [.i c.code, .i c.glyph, .i c.width, .l 2 (c.wide.map pairD)]
def pair3D (p : PairA) : Dat := .r [.i p.left, .i p.right, .i p.by_]
def headD (h : HeadA) : Dat := .r [.i h.feature, intsD h.first]
def setsD (l : List (List Int)) : Dat := .l 1 (l.map intsD)
def ruleL (r : RuleA) : List Dat := [setsD r.back, setsD r.in_, setsD r.ahead, intsD r.out, .l 2 (r.calls.map pairD)]
def ruleD (r : RuleA) : Dat := .r (ruleL r)
def rulesD (l : LookupA) : Dat := .l 5 (l.map ruleD)
def lookupD (l : LookupA) : Dat := .r [rulesD l]
def coreL (c : CoreA) : List Dat := [.s c.name, .i c.version, .l 5 (c.axes.map axisD), .l 1 (c.regions.map regionD), .i c.glyphs, .l 4 (c.chars.map charD), .l 3 (c.pairs.map pair3D), .l 2 (c.heads.map headD), .s c.root]
def ptD (p : PtA) : Dat := .r [.i p.x, .i p.y, .b p.on]
def contourD (c : List PtA) : Dat := .l 3 (c.map ptD)
def anchorL (a : AnchorA) : List Dat := [.i a.cls, .i a.x, .i a.y]
def deltaD (d : DeltaA) : Dat := .r [.i d.region, .i d.advance, .l 2 (d.moves.map pairD)]
def glyphL (g : GlyphA) : List Dat := [.l 1 (g.contours.map contourD), .l 3 (g.anchors.map fun a => .r (anchorL a)), .i g.hang.cls, .i g.hang.x, .i g.hang.y, .i g.advance, .l 3 (g.deltas.map deltaD), .l 2 (g.program.map pairD)]
def glyphD (g : GlyphA) : Dat := .r (glyphL g)
def fontL (f : FontA) : List Dat := coreL f.core ++ [.l 1 (f.lookups.map lookupD), .l 8 (f.glyphs.map glyphD)]
end Go.Proofs.YtajebdpalnpjdaaGreatDoor
namespace Go.Proofs.YtajebdpalnpjdaaGreatDoor
open Go.RowKit
attribute [local go_sem] alloc_drewN setCell_drewN

/-- What is given up with. -/
abbrev givenUp : Ending := .panicked [{ v := .iface 122 (.agg #[]), recovered := false }]
/-- source.need -/
theorem need_yes (w : World) : Calls Tryz.prog 20 #[.bool true] w fun e w' => e = .returned (.tuple #[]) ∧ w = w' := by
  go_enter Tryz.func20, Tryz.ntmps20
  go_wp2
  go_end0
  exact ⟨rfl, rfl⟩
theorem need_no (w : World) : Calls Tryz.prog 20 #[.bool false] w fun e w' => e = givenUp ∧ w = w' := by
  go_enter Tryz.func20, Tryz.ntmps20
  go_wp2
  exact ⟨rfl, rfl, rfl⟩

/-- The reader's block: twelve cells, and what is left. -/
def RB (w : World) (rb : Nat) (cs : List Value) (v : Value) : Prop := w.heap[rb]? = some (.cells (cs ++ [v]).toArray 61 (0, 0)) ∧ cs.length = 12
theorem RB.cell {w : World} {rb : Nat} {cs : List Value} {v : Value} (h : RB w rb cs v) {o : Nat} (ho : o < 12) : w.cell? ⟨rb, o, none⟩ = cs[o]? := by
  rw [show (⟨rb, o, none⟩ : Addr) = at_ rb o from rfl, cell_of_blk h.1]
  simp only [List.getElem?_toArray]
  rw [List.getElem?_append_left (by rw [h.2]; exact ho)]
theorem RB.left {w : World} {rb : Nat} {cs : List Value} {v : Value} (h : RB w rb cs v) : w.cell? ⟨rb, 12, none⟩ = some v := by
  rw [show (⟨rb, 12, none⟩ : Addr) = at_ rb 12 from rfl, cell_of_blk h.1]
  simp only [List.getElem?_toArray]
  rw [List.getElem?_append_right (by rw [h.2]; exact Nat.le_refl _), h.2]
  rfl
theorem RB.free {w : World} {rb : Nat} {cs : List Value} {v : Value} (h : RB w rb cs v) (o : Nat) : w.frozen? ⟨rb, o, none⟩ = false := free_of_blk h.1 o
theorem RB.lt {w : World} {rb : Nat} {cs : List Value} {v : Value} (h : RB w rb cs v) : rb < w.heap.size := lt_of_heap h.1
theorem RB.setLeft {w : World} {rb : Nat} {cs : List Value} {v : Value} (h : RB w rb cs v) (u : Value) : RB (w.setCell ⟨rb, 12, none⟩ u) rb cs u := by
  refine ⟨?_, h.2⟩
  rw [show (⟨rb, 12, none⟩ : Addr) = at_ rb 12 from rfl, heap_setCell_eq w rb 12 u _ _ _ h.1]
  congr 2
  apply Array.toList_inj.1
  rw [Array.toList_setIfInBounds]
  simp only [List.set_append, h.2]
  rfl
theorem RB.ext {w w' : World} {S : Nat → Prop} {rb : Nat} {cs : List Value} {v : Value} (h : RB w rb cs v) (e : Ext S w w') (hs : ¬ S rb) : RB w' rb cs v := ⟨(e.block rb h.lt hs).trans h.1, h.2⟩
/-- The parts of a line that are left. -/
def RL (w : World) (rb : Nat) (B : Nat → Prop) (cs : List Value) (ws : List ByteArray) : Prop := ∃ v, RB w rb cs v ∧ Rd (fun b => b ≠ rb ∧ B b) w [v] (.l 1 (ws.map .s))
theorem RL.ext {w w' : World} {S : Nat → Prop} {rb : Nat} {B : Nat → Prop} {cs : List Value} {ws : List ByteArray} (h : RL w rb B cs ws) (e : Ext S w w') (hs : ¬ S rb) (hS : ∀ b, b ≠ rb ∧ B b → ¬ S b) : RL w' rb B cs ws := by
  obtain ⟨v, h1, h2⟩ := h
  exact ⟨v, h1.ext e hs, h2.ext e hS⟩
theorem RL.ext0 {w w' : World} {rb : Nat} {B : Nat → Prop} {cs : List Value} {ws : List ByteArray} (h : RL w rb B cs ws) (e : Ext Nope w w') : RL w' rb B cs ws := h.ext e (fun z => z) (fun _ _ z => z)
/-- Behind the first element. -/
theorem Rd.tail {A : Nat → Prop} {w : World} {a : Option Addr} {cap sz : Nat} {x : Dat} {xs : List Dat} (h : Rd A w [.slice a (xs.length + 1) cap] (.l sz (x :: xs))) : Rd A w [.slice (if cap = 1 then a else a.map (·.add sz)) xs.length (cap - 1)] (.l sz xs) := by
  generalize hv : [Value.slice a (xs.length + 1) cap] = vs at h
  generalize hd : Dat.l sz (x :: xs) = d at h
  cases h with
  | int => cases hd
  | bool => cases hd
  | str => cases hd
  | raw => cases hd
  | nil => cases hd
  | cons => cases hd
  | list a' cap' b off css h1 h2 h3 h4 h5 h6 =>
    cases hd
    simp only [List.cons.injEq, Value.slice.injEq, and_true] at hv
    obtain ⟨rfl, _, rfl⟩ := hv
    obtain ⟨ha, hA, hb⟩ := h3 (by simp)
    simp only [List.length_cons] at h1
    refine .list _ (cap - 1) b (off + sz) (fun k => css (k + 1)) (by omega) (by omega) (fun h0 => ⟨?_, hA, hb⟩) (fun k y hk => h4 (k + 1) y (by simpa using hk)) (fun k y hk j u hu => ?_) (fun k y hk => h6 (k + 1) y (by simpa using hk))
    · rw [if_neg (by omega), ha]
      by_cases hz : sz = 0
      · subst hz; rfl
      · simp [Addr.add, hz]
    · have := h5 (k + 1) y (by simpa using hk) j u hu
      rw [Nat.add_mul, Nat.one_mul] at this
      rw [show off + sz + k * sz + j = off + (k * sz + sz) + j by omega]
      exact this
theorem RL.step {w : World} {rb : Nat} {B : Nat → Prop} {cs : List Value} {x : ByteArray} {ws : List ByteArray} {b off cap : Nat} (h1 : RB w rb cs (.slice (some ⟨b, off, none⟩) (ws.length + 1) cap))
    (h2 : Rd (fun b => b ≠ rb ∧ B b) w [.slice (some ⟨b, off, none⟩) (ws.length + 1) cap] (.l 1 (.s x :: ws.map .s))) {u : Value} (hu : u = .slice (if cap = 1 then some ⟨b, off, none⟩ else some ⟨b, off + 1, none⟩) ws.length (cap - 1)) :
    RL (w.setCell ⟨rb, 12, none⟩ u) rb B cs ws ∧ Ext (fun b => b = rb) w (w.setCell ⟨rb, 12, none⟩ u) := by
  have e : Ext (fun b => b = rb) w (w.setCell ⟨rb, 12, none⟩ u) := Ext.setCell (S := fun b => b = rb) (Ext.refl _ _) rb 12 (fun _ => rfl) u
  refine ⟨⟨u, h1.setLeft u, ?_⟩, e⟩
  have h3 := Rd.tail (xs := ws.map .s) (by rw [List.length_map]; exact h2)
  rw [List.length_map] at h3
  have h4 := h3.ext e (fun b hb => hb.1)
  rw [show [u] = [Value.slice (if cap = 1 then some ⟨b, off, none⟩ else some ⟨b, off + 1, none⟩) ws.length (cap - 1)] by rw [hu]]
  simpa [Addr.add] using h4
/-- reader.next: there is another part. -/
theorem next_some {w : World} {rb : Nat} {B : Nat → Prop} {cs : List Value} {x : ByteArray} {ws : List ByteArray} (h : RL w rb B cs (x :: ws)) : Calls Tryz.prog 19 #[ptr rb] w fun e w' => e = .returned (.string x) ∧ x.size ≤ maxLen ∧ RL w' rb B cs ws ∧ Ext (fun b => b = rb) w w' := by
  obtain ⟨v, h1, h2⟩ := h
  obtain ⟨a, cap, hv, hc1, hc2, hl⟩ := h2.l_inv
  simp only [List.cons.injEq, and_true] at hv
  subst hv
  obtain ⟨b, off, rfl, hb, hbl, hat⟩ := hl (by simp)
  obtain ⟨us, hu1, hu2, hu3⟩ := hat 0 (.s x) rfl
  obtain ⟨rfl, hx⟩ := hu3.s_inv
  have c0 : w.cell? ⟨b, off, none⟩ = some (.string x) := by simpa using hu2 0 _ rfl
  have c1 := h1.left
  have f1 := h1.free 12
  simp only [List.map_cons, List.length_cons, List.length_map] at hc1 c1 h2 h1
  have H := toHid (show _ ∧ _ ∧ _ from ⟨h1, h2, hb⟩)
  obtain ⟨n, HN⟩ : ∃ n, Hid (ws.length = n) := ⟨_, rfl⟩
  rw [HN.out] at hc1 c1
  clear h1 h2 hb hbl hat hl hu1 hu2 hu3
  have s1 : (0 : Int) < ((n : Int) + 1) := by omega
  have s2 : (1 : Int) ≤ ((n : Int) + 1) := by omega
  have s3 : (1 : Int) ≤ (cap : Int) := by omega
  go_enter Tryz.func19, Tryz.ntmps19
  go_wp2_with fail
  refine (need_yes _).mono ?_
  rintro e w' ⟨rfl, rfl⟩
  go_wp2
  all_goals
    go_ret
    have h2 := H.out.2.1
    have h1 := H.out.1
    refine ⟨rfl, RL.step h1 h2 ?_⟩
    rw [HN.out]
    simp [*]
/-- reader.next: there is none. -/
theorem next_none {w : World} {rb : Nat} {B : Nat → Prop} {cs : List Value} (h : RL w rb B cs []) : Calls Tryz.prog 19 #[ptr rb] w fun e w' => e = givenUp ∧ w = w' := by
  obtain ⟨v, h1, h2⟩ := h
  obtain ⟨a, cap, hv, _⟩ := h2.l_inv
  simp only [List.cons.injEq, and_true] at hv
  subst hv
  have c1 : w.cell? ⟨rb, 12, none⟩ = some (.slice a 0 cap) := h1.left
  clear h1 h2
  go_enter Tryz.func19, Tryz.ntmps19
  go_wp2_with fail
  refine (need_no _).mono ?_
  rintro e w' ⟨rfl, rfl⟩
  exact ⟨rfl, rfl, rfl⟩
end Go.Proofs.YtajebdpalnpjdaaGreatDoor
namespace Go.Proofs.YtajebdpalnpjdaaGreatDoor
open Go.RowKit
attribute [local go_sem] alloc_drewN setCell_drewN

def anyN (p : Nat → Bool) : Nat → Bool
  | 0 => false
  | n + 1 => anyN p n || p n
theorem anyN_true {p : Nat → Bool} {k n : Nat} (hk : k < n) (h : p k = true) : anyN p n = true := by
  induction n with
  | zero => omega
  | succ n ih =>
    unfold anyN
    by_cases hkn : k = n
    · subst hkn; rw [h, Bool.or_true]
    · rw [ih (by omega), Bool.true_or]
theorem anyN_congr {p q : Nat → Bool} {n : Nat} (h : ∀ k, k < n → p k = q k) : anyN p n = anyN q n := by
  induction n with
  | zero => rfl
  | succ n ih => unfold anyN; rw [ih (fun k hk => h k (by omega)), h n (by omega)]
theorem anyN_list {α : Type} (xs : List α) (p : Nat → Bool) (q : α → Bool) (h : ∀ k x, xs[k]? = some x → p k = q x) : anyN p xs.length = xs.any q := by
  have e : ∀ n, n ≤ xs.length → anyN p n = (xs.take n).any q := by
    intro n
    induction n with
    | zero => intro _; simp [anyN]
    | succ n ih =>
      intro hn
      have hx : xs[n]? = some xs[n] := List.getElem?_eq_getElem (by omega)
      unfold anyN
      rw [ih (by omega), h n _ hx, List.take_succ_eq_append_getElem (show n < xs.length by omega), List.any_append]
      simp
  rw [e _ (Nat.le_refl _), List.take_length]
theorem ret_b {a b : Bool} (h : a = b) : Ending.returned (.bool a) = .returned (.bool b) := by rw [h]
theorem ret_i {a b : Int} (h : a = b) : Ending.returned (.int .i64 a) = .returned (.int .i64 b) := by rw [h]
/-- A function enters. -/
abbrev Enters (f : FuncId) : Prop := ∀ args w, (callFunc f args).run Tryz.prog w = .ok (.enter f args) w
/-- What a function says of each element, whatever else was made before. -/
def Says (f : FuncId) (caps : Array Value) (w : World) (n : Nat) (elem : Nat → World → Value → Prop) (p : Nat → Bool) : Prop :=
  ∀ (k : Nat) (W : World) (u : Value), k < n → Ext Nope w W → elem k W u → Calls Tryz.prog f (#[u] ++ caps) W fun e W' => e = .returned (.bool (p k)) ∧ Ext Nope W W'
/-- The element of a list of things of one cell. -/
def El1 (A : Nat → Prop) (xs : List Dat) (k : Nat) (w : World) (u : Value) : Prop := ∃ x, xs[k]? = some x ∧ Rd A w [u] x
/-- The element of a list of structures. -/
def ElS (A : Nat → Prop) (xs : List Dat) (k : Nat) (w : World) (u : Value) : Prop := ∃ x cs, u = .agg cs.toArray ∧ xs[k]? = some x ∧ Rd A w cs x
def IdxOf (w : World) (p : Nat → Bool) (n : Nat) (e : Ending) (w' : World) : Prop := ∃ r : Int, e = .returned (.int .i64 r) ∧ decide (0 ≤ r) = anyN p n ∧ Ext Nope w w'
set_option maxHeartbeats 1000000 in
/-- slices.IndexFunc at []int,int -/
theorem index_ints {A : Nat → Prop} {w : World} {v : Value} {xs : List Dat} {f : FuncId} {caps : Array Value} {p : Nat → Bool} (hf : Enters f) (hr : Rd A w [v] (.l 1 xs)) (hs : Says f caps w xs.length (El1 A xs) p) :
    Calls Tryz.prog 216 #[v, .func (.func f) #[] caps] w (IdxOf w p xs.length) := by
  have HR := toHid hr
  obtain ⟨a, cap, hv, hc1, hc2, _⟩ := hr.l_inv
  simp only [List.cons.injEq, and_true] at hv
  subst hv
  obtain ⟨n, HN⟩ : ∃ n, Hid (xs.length = n) := ⟨_, rfl⟩
  have HS := toHid hs
  rw [HN.out] at hc1 hs ⊢
  clear hr hs
  go_enter Tryz.func216, Tryz.ntmps216
  go_wp2
  go_loopw [8] (fun i wr => ∃ k : Nat, i = .int .i64 k ∧ k ≤ n ∧ anyN p k = false ∧ Ext Nope w wr) (fun i _ => n - (intOf i).toNat)
  case atStart => exact ⟨0, rfl, Nat.zero_le _, rfl, Ext.refl _ _⟩
  case round =>
    obtain ⟨k, rfl, hk, hp, hE⟩ := hrel
    rename World => wr
    have HE := toHid (show _ ∧ _ from ⟨hE, hp⟩)
    clear hE hp
    by_cases hkn : k < n
    · have hd := HR.out.ext0 HE.out.1
      obtain ⟨a', cap', hv, _, _, hl⟩ := hd.l_inv
      simp only [List.cons.injEq, Value.slice.injEq, and_true] at hv
      obtain ⟨rfl, _, rfl⟩ := hv
      obtain ⟨b, off, rfl, hb, hbl, hat⟩ := hl (by rw [HN.out]; omega)
      obtain ⟨x, hx⟩ : ∃ x, xs[k]? = some x := ⟨_, List.getElem?_eq_getElem (by rw [HN.out]; exact hkn)⟩
      obtain ⟨us, hu1, hu2, hu3⟩ := hat k x hx
      obtain ⟨u0, rfl⟩ : ∃ u0, us = [u0] := by
        match us, hu1 with
        | [u0], _ => exact ⟨u0, rfl⟩
      have c0 : wr.cell? ⟨b, off + k, none⟩ = some u0 := by simpa using hu2 0 _ rfl
      have HC := toHid (HS.out k wr (u0) (by rw [HN.out]; exact hkn) HE.out.1 ⟨x, hx, hu3⟩)
      have s1 : (0 : Int) ≤ (k : Int) := by omega
      have s2 : (k : Int) < (n : Int) := by omega
      clear hd hl hat hu2 hu3 hx hb hbl hu1
      go_wp2_with fail
      refine HC.out.mono ?_
      rintro e w2 ⟨rfl, e2⟩
      have HP : Hid (anyN p (k + 1) = (anyN p k || p k)) := rfl
      have HQ := toHid (show p k = true → anyN p n = true from fun h => anyN_true hkn h)
      have H2 : Hid (Ext Nope w w2) := ext0 HE.out.1 e2
      clear e2 HC
      cases hpk : p k with
      | true =>
        have HK := toHid (HQ.out hpk)
        clear hpk
        go_wp2
        go_ret
        exact ⟨_, rfl, by rw [HK.out]; simp, H2.out⟩
      | false =>
        have HK : Hid (anyN p (k + 1) = false) := by unfold Hid; rw [HP.out, HE.out.2, hpk]; rfl
        clear hpk
        go_wp2
        go_roundw
        case rel => exact ⟨k + 1, by go_num, by omega, HK.out, H2.out⟩
        case measure => simp [intOf]; omega
    · have hkk : k = n := by omega
      subst hkk
      have s2 : decide ((k : Int) < (k : Int)) = false := by simp
      go_wp2
      go_ret
      exact ⟨_, rfl, by rw [HE.out.2]; decide, HE.out.1⟩
/-- slices.ContainsFunc at []int,int -/
theorem has_ints {A : Nat → Prop} {w : World} {v : Value} {xs : List Dat} {f : FuncId} {caps : Array Value} {p : Nat → Bool} (hf : Enters f) (hr : Rd A w [v] (.l 1 xs)) (hs : Says f caps w xs.length (El1 A xs) p) :
    Calls Tryz.prog 160 #[v, .func (.func f) #[] caps] w fun e w' => e = .returned (.bool (anyN p xs.length)) ∧ Ext Nope w w' := by
  have HI := toHid (index_ints hf hr hs)
  clear hr hs hf
  go_enter Tryz.func160, Tryz.ntmps160
  go_wp2_with fail
  refine HI.out.mono ?_
  rintro e w2 ⟨r, rfl, hrr, e2⟩
  have HRR := toHid (show _ ∧ _ from ⟨hrr, e2⟩)
  clear hrr e2 HI
  go_wp2
  go_ret
  exact ⟨ret_b HRR.out.1, HRR.out.2⟩
set_option maxHeartbeats 1000000 in
/-- slices.IndexFunc at [][]int,[]int -/
theorem index_sets {A : Nat → Prop} {w : World} {v : Value} {xs : List Dat} {f : FuncId} {caps : Array Value} {p : Nat → Bool} (hf : Enters f) (hr : Rd A w [v] (.l 1 xs)) (hs : Says f caps w xs.length (El1 A xs) p) :
    Calls Tryz.prog 217 #[v, .func (.func f) #[] caps] w (IdxOf w p xs.length) := by
  have HR := toHid hr
  obtain ⟨a, cap, hv, hc1, hc2, _⟩ := hr.l_inv
  simp only [List.cons.injEq, and_true] at hv
  subst hv
  obtain ⟨n, HN⟩ : ∃ n, Hid (xs.length = n) := ⟨_, rfl⟩
  have HS := toHid hs
  rw [HN.out] at hc1 hs ⊢
  clear hr hs
  go_enter Tryz.func217, Tryz.ntmps217
  go_wp2
  go_loopw [8] (fun i wr => ∃ k : Nat, i = .int .i64 k ∧ k ≤ n ∧ anyN p k = false ∧ Ext Nope w wr) (fun i _ => n - (intOf i).toNat)
  case atStart => exact ⟨0, rfl, Nat.zero_le _, rfl, Ext.refl _ _⟩
  case round =>
    obtain ⟨k, rfl, hk, hp, hE⟩ := hrel
    rename World => wr
    have HE := toHid (show _ ∧ _ from ⟨hE, hp⟩)
    clear hE hp
    by_cases hkn : k < n
    · have hd := HR.out.ext0 HE.out.1
      obtain ⟨a', cap', hv, _, _, hl⟩ := hd.l_inv
      simp only [List.cons.injEq, Value.slice.injEq, and_true] at hv
      obtain ⟨rfl, _, rfl⟩ := hv
      obtain ⟨b, off, rfl, hb, hbl, hat⟩ := hl (by rw [HN.out]; omega)
      obtain ⟨x, hx⟩ : ∃ x, xs[k]? = some x := ⟨_, List.getElem?_eq_getElem (by rw [HN.out]; exact hkn)⟩
      obtain ⟨us, hu1, hu2, hu3⟩ := hat k x hx
      obtain ⟨u0, rfl⟩ : ∃ u0, us = [u0] := by
        match us, hu1 with
        | [u0], _ => exact ⟨u0, rfl⟩
      have c0 : wr.cell? ⟨b, off + k, none⟩ = some u0 := by simpa using hu2 0 _ rfl
      have HC := toHid (HS.out k wr (u0) (by rw [HN.out]; exact hkn) HE.out.1 ⟨x, hx, hu3⟩)
      have s1 : (0 : Int) ≤ (k : Int) := by omega
      have s2 : (k : Int) < (n : Int) := by omega
      clear hd hl hat hu2 hu3 hx hb hbl hu1
      go_wp2_with fail
      refine HC.out.mono ?_
      rintro e w2 ⟨rfl, e2⟩
      have HP : Hid (anyN p (k + 1) = (anyN p k || p k)) := rfl
      have HQ := toHid (show p k = true → anyN p n = true from fun h => anyN_true hkn h)
      have H2 : Hid (Ext Nope w w2) := ext0 HE.out.1 e2
      clear e2 HC
      cases hpk : p k with
      | true =>
        have HK := toHid (HQ.out hpk)
        clear hpk
        go_wp2
        go_ret
        exact ⟨_, rfl, by rw [HK.out]; simp, H2.out⟩
      | false =>
        have HK : Hid (anyN p (k + 1) = false) := by unfold Hid; rw [HP.out, HE.out.2, hpk]; rfl
        clear hpk
        go_wp2
        go_roundw
        case rel => exact ⟨k + 1, by go_num, by omega, HK.out, H2.out⟩
        case measure => simp [intOf]; omega
    · have hkk : k = n := by omega
      subst hkk
      have s2 : decide ((k : Int) < (k : Int)) = false := by simp
      go_wp2
      go_ret
      exact ⟨_, rfl, by rw [HE.out.2]; decide, HE.out.1⟩
/-- slices.ContainsFunc at [][]int,[]int -/
theorem has_sets {A : Nat → Prop} {w : World} {v : Value} {xs : List Dat} {f : FuncId} {caps : Array Value} {p : Nat → Bool} (hf : Enters f) (hr : Rd A w [v] (.l 1 xs)) (hs : Says f caps w xs.length (El1 A xs) p) :
    Calls Tryz.prog 165 #[v, .func (.func f) #[] caps] w fun e w' => e = .returned (.bool (anyN p xs.length)) ∧ Ext Nope w w' := by
  have HI := toHid (index_sets hf hr hs)
  clear hr hs hf
  go_enter Tryz.func165, Tryz.ntmps165
  go_wp2_with fail
  refine HI.out.mono ?_
  rintro e w2 ⟨r, rfl, hrr, e2⟩
  have HRR := toHid (show _ ∧ _ from ⟨hrr, e2⟩)
  clear hrr e2 HI
  go_wp2
  go_ret
  exact ⟨ret_b HRR.out.1, HRR.out.2⟩
set_option maxHeartbeats 1000000 in
/-- slices.IndexFunc at []abugida/api.Call,abugida/api.Call -/
theorem index_calls {A : Nat → Prop} {w : World} {v : Value} {xs : List Dat} {f : FuncId} {caps : Array Value} {p : Nat → Bool} (hf : Enters f) (hr : Rd A w [v] (.l 2 xs)) (hs : Says f caps w xs.length (ElS A xs) p) :
    Calls Tryz.prog 219 #[v, .func (.func f) #[] caps] w (IdxOf w p xs.length) := by
  have HR := toHid hr
  obtain ⟨a, cap, hv, hc1, hc2, _⟩ := hr.l_inv
  simp only [List.cons.injEq, and_true] at hv
  subst hv
  obtain ⟨n, HN⟩ : ∃ n, Hid (xs.length = n) := ⟨_, rfl⟩
  have HS := toHid hs
  rw [HN.out] at hc1 hs ⊢
  clear hr hs
  go_enter Tryz.func219, Tryz.ntmps219
  go_wp2
  go_loopw [8] (fun i wr => ∃ k : Nat, i = .int .i64 k ∧ k ≤ n ∧ anyN p k = false ∧ Ext Nope w wr) (fun i _ => n - (intOf i).toNat)
  case atStart => exact ⟨0, rfl, Nat.zero_le _, rfl, Ext.refl _ _⟩
  case round =>
    obtain ⟨k, rfl, hk, hp, hE⟩ := hrel
    rename World => wr
    have HE := toHid (show _ ∧ _ from ⟨hE, hp⟩)
    clear hE hp
    by_cases hkn : k < n
    · have hd := HR.out.ext0 HE.out.1
      obtain ⟨a', cap', hv, _, _, hl⟩ := hd.l_inv
      simp only [List.cons.injEq, Value.slice.injEq, and_true] at hv
      obtain ⟨rfl, _, rfl⟩ := hv
      obtain ⟨b, off, rfl, hb, hbl, hat⟩ := hl (by rw [HN.out]; omega)
      obtain ⟨x, hx⟩ : ∃ x, xs[k]? = some x := ⟨_, List.getElem?_eq_getElem (by rw [HN.out]; exact hkn)⟩
      obtain ⟨us, hu1, hu2, hu3⟩ := hat k x hx
      obtain ⟨u0, u1, rfl⟩ : ∃ u0 u1, us = [u0, u1] := by
        match us, hu1 with
        | [u0, u1], _ => exact ⟨u0, u1, rfl⟩
      have c0 : wr.cell? ⟨b, off + k * 2, none⟩ = some u0 := by simpa using hu2 0 _ rfl
      have c1 : wr.cell? ⟨b, off + k * 2 + 1, none⟩ = some u1 := by simpa using hu2 1 _ rfl
      have HC := toHid (HS.out k wr (.agg #[u0, u1]) (by rw [HN.out]; exact hkn) HE.out.1 ⟨x, [u0, u1], rfl, hx, hu3⟩)
      have s1 : (0 : Int) ≤ (k : Int) := by omega
      have s2 : (k : Int) < (n : Int) := by omega
      clear hd hl hat hu2 hu3 hx hb hbl hu1
      go_wp2_with fail
      refine HC.out.mono ?_
      rintro e w2 ⟨rfl, e2⟩
      have HP : Hid (anyN p (k + 1) = (anyN p k || p k)) := rfl
      have HQ := toHid (show p k = true → anyN p n = true from fun h => anyN_true hkn h)
      have H2 : Hid (Ext Nope w w2) := ext0 HE.out.1 e2
      clear e2 HC
      cases hpk : p k with
      | true =>
        have HK := toHid (HQ.out hpk)
        clear hpk
        go_wp2
        go_ret
        exact ⟨_, rfl, by rw [HK.out]; simp, H2.out⟩
      | false =>
        have HK : Hid (anyN p (k + 1) = false) := by unfold Hid; rw [HP.out, HE.out.2, hpk]; rfl
        clear hpk
        go_wp2
        go_roundw
        case rel => exact ⟨k + 1, by go_num, by omega, HK.out, H2.out⟩
        case measure => simp [intOf]; omega
    · have hkk : k = n := by omega
      subst hkk
      have s2 : decide ((k : Int) < (k : Int)) = false := by simp
      go_wp2
      go_ret
      exact ⟨_, rfl, by rw [HE.out.2]; decide, HE.out.1⟩
/-- slices.ContainsFunc at []abugida/api.Call,abugida/api.Call -/
theorem has_calls {A : Nat → Prop} {w : World} {v : Value} {xs : List Dat} {f : FuncId} {caps : Array Value} {p : Nat → Bool} (hf : Enters f) (hr : Rd A w [v] (.l 2 xs)) (hs : Says f caps w xs.length (ElS A xs) p) :
    Calls Tryz.prog 168 #[v, .func (.func f) #[] caps] w fun e w' => e = .returned (.bool (anyN p xs.length)) ∧ Ext Nope w w' := by
  have HI := toHid (index_calls hf hr hs)
  clear hr hs hf
  go_enter Tryz.func168, Tryz.ntmps168
  go_wp2_with fail
  refine HI.out.mono ?_
  rintro e w2 ⟨r, rfl, hrr, e2⟩
  have HRR := toHid (show _ ∧ _ from ⟨hrr, e2⟩)
  clear hrr e2 HI
  go_wp2
  go_ret
  exact ⟨ret_b HRR.out.1, HRR.out.2⟩
set_option maxHeartbeats 1000000 in
/-- slices.IndexFunc at [][]abugida/api.Point,[]abugida/api.Point -/
theorem index_contours {A : Nat → Prop} {w : World} {v : Value} {xs : List Dat} {f : FuncId} {caps : Array Value} {p : Nat → Bool} (hf : Enters f) (hr : Rd A w [v] (.l 1 xs)) (hs : Says f caps w xs.length (El1 A xs) p) :
    Calls Tryz.prog 220 #[v, .func (.func f) #[] caps] w (IdxOf w p xs.length) := by
  have HR := toHid hr
  obtain ⟨a, cap, hv, hc1, hc2, _⟩ := hr.l_inv
  simp only [List.cons.injEq, and_true] at hv
  subst hv
  obtain ⟨n, HN⟩ : ∃ n, Hid (xs.length = n) := ⟨_, rfl⟩
  have HS := toHid hs
  rw [HN.out] at hc1 hs ⊢
  clear hr hs
  go_enter Tryz.func220, Tryz.ntmps220
  go_wp2
  go_loopw [8] (fun i wr => ∃ k : Nat, i = .int .i64 k ∧ k ≤ n ∧ anyN p k = false ∧ Ext Nope w wr) (fun i _ => n - (intOf i).toNat)
  case atStart => exact ⟨0, rfl, Nat.zero_le _, rfl, Ext.refl _ _⟩
  case round =>
    obtain ⟨k, rfl, hk, hp, hE⟩ := hrel
    rename World => wr
    have HE := toHid (show _ ∧ _ from ⟨hE, hp⟩)
    clear hE hp
    by_cases hkn : k < n
    · have hd := HR.out.ext0 HE.out.1
      obtain ⟨a', cap', hv, _, _, hl⟩ := hd.l_inv
      simp only [List.cons.injEq, Value.slice.injEq, and_true] at hv
      obtain ⟨rfl, _, rfl⟩ := hv
      obtain ⟨b, off, rfl, hb, hbl, hat⟩ := hl (by rw [HN.out]; omega)
      obtain ⟨x, hx⟩ : ∃ x, xs[k]? = some x := ⟨_, List.getElem?_eq_getElem (by rw [HN.out]; exact hkn)⟩
      obtain ⟨us, hu1, hu2, hu3⟩ := hat k x hx
      obtain ⟨u0, rfl⟩ : ∃ u0, us = [u0] := by
        match us, hu1 with
        | [u0], _ => exact ⟨u0, rfl⟩
      have c0 : wr.cell? ⟨b, off + k, none⟩ = some u0 := by simpa using hu2 0 _ rfl
      have HC := toHid (HS.out k wr (u0) (by rw [HN.out]; exact hkn) HE.out.1 ⟨x, hx, hu3⟩)
      have s1 : (0 : Int) ≤ (k : Int) := by omega
      have s2 : (k : Int) < (n : Int) := by omega
      clear hd hl hat hu2 hu3 hx hb hbl hu1
      go_wp2_with fail
      refine HC.out.mono ?_
      rintro e w2 ⟨rfl, e2⟩
      have HP : Hid (anyN p (k + 1) = (anyN p k || p k)) := rfl
      have HQ := toHid (show p k = true → anyN p n = true from fun h => anyN_true hkn h)
      have H2 : Hid (Ext Nope w w2) := ext0 HE.out.1 e2
      clear e2 HC
      cases hpk : p k with
      | true =>
        have HK := toHid (HQ.out hpk)
        clear hpk
        go_wp2
        go_ret
        exact ⟨_, rfl, by rw [HK.out]; simp, H2.out⟩
      | false =>
        have HK : Hid (anyN p (k + 1) = false) := by unfold Hid; rw [HP.out, HE.out.2, hpk]; rfl
        clear hpk
        go_wp2
        go_roundw
        case rel => exact ⟨k + 1, by go_num, by omega, HK.out, H2.out⟩
        case measure => simp [intOf]; omega
    · have hkk : k = n := by omega
      subst hkk
      have s2 : decide ((k : Int) < (k : Int)) = false := by simp
      go_wp2
      go_ret
      exact ⟨_, rfl, by rw [HE.out.2]; decide, HE.out.1⟩
/-- slices.ContainsFunc at [][]abugida/api.Point,[]abugida/api.Point -/
theorem has_contours {A : Nat → Prop} {w : World} {v : Value} {xs : List Dat} {f : FuncId} {caps : Array Value} {p : Nat → Bool} (hf : Enters f) (hr : Rd A w [v] (.l 1 xs)) (hs : Says f caps w xs.length (El1 A xs) p) :
    Calls Tryz.prog 169 #[v, .func (.func f) #[] caps] w fun e w' => e = .returned (.bool (anyN p xs.length)) ∧ Ext Nope w w' := by
  have HI := toHid (index_contours hf hr hs)
  clear hr hs hf
  go_enter Tryz.func169, Tryz.ntmps169
  go_wp2_with fail
  refine HI.out.mono ?_
  rintro e w2 ⟨r, rfl, hrr, e2⟩
  have HRR := toHid (show _ ∧ _ from ⟨hrr, e2⟩)
  clear hrr e2 HI
  go_wp2
  go_ret
  exact ⟨ret_b HRR.out.1, HRR.out.2⟩
set_option maxHeartbeats 1000000 in
/-- slices.IndexFunc at []abugida/api.Point,abugida/api.Point -/
theorem index_points {A : Nat → Prop} {w : World} {v : Value} {xs : List Dat} {f : FuncId} {caps : Array Value} {p : Nat → Bool} (hf : Enters f) (hr : Rd A w [v] (.l 3 xs)) (hs : Says f caps w xs.length (ElS A xs) p) :
    Calls Tryz.prog 221 #[v, .func (.func f) #[] caps] w (IdxOf w p xs.length) := by
  have HR := toHid hr
  obtain ⟨a, cap, hv, hc1, hc2, _⟩ := hr.l_inv
  simp only [List.cons.injEq, and_true] at hv
  subst hv
  obtain ⟨n, HN⟩ : ∃ n, Hid (xs.length = n) := ⟨_, rfl⟩
  have HS := toHid hs
  rw [HN.out] at hc1 hs ⊢
  clear hr hs
  go_enter Tryz.func221, Tryz.ntmps221
  go_wp2
  go_loopw [8] (fun i wr => ∃ k : Nat, i = .int .i64 k ∧ k ≤ n ∧ anyN p k = false ∧ Ext Nope w wr) (fun i _ => n - (intOf i).toNat)
  case atStart => exact ⟨0, rfl, Nat.zero_le _, rfl, Ext.refl _ _⟩
  case round =>
    obtain ⟨k, rfl, hk, hp, hE⟩ := hrel
    rename World => wr
    have HE := toHid (show _ ∧ _ from ⟨hE, hp⟩)
    clear hE hp
    by_cases hkn : k < n
    · have hd := HR.out.ext0 HE.out.1
      obtain ⟨a', cap', hv, _, _, hl⟩ := hd.l_inv
      simp only [List.cons.injEq, Value.slice.injEq, and_true] at hv
      obtain ⟨rfl, _, rfl⟩ := hv
      obtain ⟨b, off, rfl, hb, hbl, hat⟩ := hl (by rw [HN.out]; omega)
      obtain ⟨x, hx⟩ : ∃ x, xs[k]? = some x := ⟨_, List.getElem?_eq_getElem (by rw [HN.out]; exact hkn)⟩
      obtain ⟨us, hu1, hu2, hu3⟩ := hat k x hx
      obtain ⟨u0, u1, u2, rfl⟩ : ∃ u0 u1 u2, us = [u0, u1, u2] := by
        match us, hu1 with
        | [u0, u1, u2], _ => exact ⟨u0, u1, u2, rfl⟩
      have c0 : wr.cell? ⟨b, off + k * 3, none⟩ = some u0 := by simpa using hu2 0 _ rfl
      have c1 : wr.cell? ⟨b, off + k * 3 + 1, none⟩ = some u1 := by simpa using hu2 1 _ rfl
      have c2 : wr.cell? ⟨b, off + k * 3 + 2, none⟩ = some u2 := by simpa using hu2 2 _ rfl
      have HC := toHid (HS.out k wr (.agg #[u0, u1, u2]) (by rw [HN.out]; exact hkn) HE.out.1 ⟨x, [u0, u1, u2], rfl, hx, hu3⟩)
      have s1 : (0 : Int) ≤ (k : Int) := by omega
      have s2 : (k : Int) < (n : Int) := by omega
      clear hd hl hat hu2 hu3 hx hb hbl hu1
      go_wp2_with fail
      refine HC.out.mono ?_
      rintro e w2 ⟨rfl, e2⟩
      have HP : Hid (anyN p (k + 1) = (anyN p k || p k)) := rfl
      have HQ := toHid (show p k = true → anyN p n = true from fun h => anyN_true hkn h)
      have H2 : Hid (Ext Nope w w2) := ext0 HE.out.1 e2
      clear e2 HC
      cases hpk : p k with
      | true =>
        have HK := toHid (HQ.out hpk)
        clear hpk
        go_wp2
        go_ret
        exact ⟨_, rfl, by rw [HK.out]; simp, H2.out⟩
      | false =>
        have HK : Hid (anyN p (k + 1) = false) := by unfold Hid; rw [HP.out, HE.out.2, hpk]; rfl
        clear hpk
        go_wp2
        go_roundw
        case rel => exact ⟨k + 1, by go_num, by omega, HK.out, H2.out⟩
        case measure => simp [intOf]; omega
    · have hkk : k = n := by omega
      subst hkk
      have s2 : decide ((k : Int) < (k : Int)) = false := by simp
      go_wp2
      go_ret
      exact ⟨_, rfl, by rw [HE.out.2]; decide, HE.out.1⟩
/-- slices.ContainsFunc at []abugida/api.Point,abugida/api.Point -/
theorem has_points {A : Nat → Prop} {w : World} {v : Value} {xs : List Dat} {f : FuncId} {caps : Array Value} {p : Nat → Bool} (hf : Enters f) (hr : Rd A w [v] (.l 3 xs)) (hs : Says f caps w xs.length (ElS A xs) p) :
    Calls Tryz.prog 171 #[v, .func (.func f) #[] caps] w fun e w' => e = .returned (.bool (anyN p xs.length)) ∧ Ext Nope w w' := by
  have HI := toHid (index_points hf hr hs)
  clear hr hs hf
  go_enter Tryz.func171, Tryz.ntmps171
  go_wp2_with fail
  refine HI.out.mono ?_
  rintro e w2 ⟨r, rfl, hrr, e2⟩
  have HRR := toHid (show _ ∧ _ from ⟨hrr, e2⟩)
  clear hrr e2 HI
  go_wp2
  go_ret
  exact ⟨ret_b HRR.out.1, HRR.out.2⟩
set_option maxHeartbeats 1000000 in
/-- slices.IndexFunc at []abugida/api.Region,abugida/api.Region -/
theorem index_regions {A : Nat → Prop} {w : World} {v : Value} {xs : List Dat} {f : FuncId} {caps : Array Value} {p : Nat → Bool} (hf : Enters f) (hr : Rd A w [v] (.l 1 xs)) (hs : Says f caps w xs.length (ElS A xs) p) :
    Calls Tryz.prog 212 #[v, .func (.func f) #[] caps] w (IdxOf w p xs.length) := by
  have HR := toHid hr
  obtain ⟨a, cap, hv, hc1, hc2, _⟩ := hr.l_inv
  simp only [List.cons.injEq, and_true] at hv
  subst hv
  obtain ⟨n, HN⟩ : ∃ n, Hid (xs.length = n) := ⟨_, rfl⟩
  have HS := toHid hs
  rw [HN.out] at hc1 hs ⊢
  clear hr hs
  go_enter Tryz.func212, Tryz.ntmps212
  go_wp2
  go_loopw [8] (fun i wr => ∃ k : Nat, i = .int .i64 k ∧ k ≤ n ∧ anyN p k = false ∧ Ext Nope w wr) (fun i _ => n - (intOf i).toNat)
  case atStart => exact ⟨0, rfl, Nat.zero_le _, rfl, Ext.refl _ _⟩
  case round =>
    obtain ⟨k, rfl, hk, hp, hE⟩ := hrel
    rename World => wr
    have HE := toHid (show _ ∧ _ from ⟨hE, hp⟩)
    clear hE hp
    by_cases hkn : k < n
    · have hd := HR.out.ext0 HE.out.1
      obtain ⟨a', cap', hv, _, _, hl⟩ := hd.l_inv
      simp only [List.cons.injEq, Value.slice.injEq, and_true] at hv
      obtain ⟨rfl, _, rfl⟩ := hv
      obtain ⟨b, off, rfl, hb, hbl, hat⟩ := hl (by rw [HN.out]; omega)
      obtain ⟨x, hx⟩ : ∃ x, xs[k]? = some x := ⟨_, List.getElem?_eq_getElem (by rw [HN.out]; exact hkn)⟩
      obtain ⟨us, hu1, hu2, hu3⟩ := hat k x hx
      obtain ⟨u0, rfl⟩ : ∃ u0, us = [u0] := by
        match us, hu1 with
        | [u0], _ => exact ⟨u0, rfl⟩
      have c0 : wr.cell? ⟨b, off + k, none⟩ = some u0 := by simpa using hu2 0 _ rfl
      have HC := toHid (HS.out k wr (.agg #[u0]) (by rw [HN.out]; exact hkn) HE.out.1 ⟨x, [u0], rfl, hx, hu3⟩)
      have s1 : (0 : Int) ≤ (k : Int) := by omega
      have s2 : (k : Int) < (n : Int) := by omega
      clear hd hl hat hu2 hu3 hx hb hbl hu1
      go_wp2_with fail
      refine HC.out.mono ?_
      rintro e w2 ⟨rfl, e2⟩
      have HP : Hid (anyN p (k + 1) = (anyN p k || p k)) := rfl
      have HQ := toHid (show p k = true → anyN p n = true from fun h => anyN_true hkn h)
      have H2 : Hid (Ext Nope w w2) := ext0 HE.out.1 e2
      clear e2 HC
      cases hpk : p k with
      | true =>
        have HK := toHid (HQ.out hpk)
        clear hpk
        go_wp2
        go_ret
        exact ⟨_, rfl, by rw [HK.out]; simp, H2.out⟩
      | false =>
        have HK : Hid (anyN p (k + 1) = false) := by unfold Hid; rw [HP.out, HE.out.2, hpk]; rfl
        clear hpk
        go_wp2
        go_roundw
        case rel => exact ⟨k + 1, by go_num, by omega, HK.out, H2.out⟩
        case measure => simp [intOf]; omega
    · have hkk : k = n := by omega
      subst hkk
      have s2 : decide ((k : Int) < (k : Int)) = false := by simp
      go_wp2
      go_ret
      exact ⟨_, rfl, by rw [HE.out.2]; decide, HE.out.1⟩
/-- slices.ContainsFunc at []abugida/api.Region,abugida/api.Region -/
theorem has_regions {A : Nat → Prop} {w : World} {v : Value} {xs : List Dat} {f : FuncId} {caps : Array Value} {p : Nat → Bool} (hf : Enters f) (hr : Rd A w [v] (.l 1 xs)) (hs : Says f caps w xs.length (ElS A xs) p) :
    Calls Tryz.prog 148 #[v, .func (.func f) #[] caps] w fun e w' => e = .returned (.bool (anyN p xs.length)) ∧ Ext Nope w w' := by
  have HI := toHid (index_regions hf hr hs)
  clear hr hs hf
  go_enter Tryz.func148, Tryz.ntmps148
  go_wp2_with fail
  refine HI.out.mono ?_
  rintro e w2 ⟨r, rfl, hrr, e2⟩
  have HRR := toHid (show _ ∧ _ from ⟨hrr, e2⟩)
  clear hrr e2 HI
  go_wp2
  go_ret
  exact ⟨ret_b HRR.out.1, HRR.out.2⟩
set_option maxHeartbeats 1000000 in
/-- slices.IndexFunc at [][2]int,[2]int -/
theorem index_pairs2 {A : Nat → Prop} {w : World} {v : Value} {xs : List Dat} {f : FuncId} {caps : Array Value} {p : Nat → Bool} (hf : Enters f) (hr : Rd A w [v] (.l 2 xs)) (hs : Says f caps w xs.length (ElS A xs) p) :
    Calls Tryz.prog 223 #[v, .func (.func f) #[] caps] w (IdxOf w p xs.length) := by
  have HR := toHid hr
  obtain ⟨a, cap, hv, hc1, hc2, _⟩ := hr.l_inv
  simp only [List.cons.injEq, and_true] at hv
  subst hv
  obtain ⟨n, HN⟩ : ∃ n, Hid (xs.length = n) := ⟨_, rfl⟩
  have HS := toHid hs
  rw [HN.out] at hc1 hs ⊢
  clear hr hs
  go_enter Tryz.func223, Tryz.ntmps223
  go_wp2
  go_loopw [8] (fun i wr => ∃ k : Nat, i = .int .i64 k ∧ k ≤ n ∧ anyN p k = false ∧ Ext Nope w wr) (fun i _ => n - (intOf i).toNat)
  case atStart => exact ⟨0, rfl, Nat.zero_le _, rfl, Ext.refl _ _⟩
  case round =>
    obtain ⟨k, rfl, hk, hp, hE⟩ := hrel
    rename World => wr
    have HE := toHid (show _ ∧ _ from ⟨hE, hp⟩)
    clear hE hp
    by_cases hkn : k < n
    · have hd := HR.out.ext0 HE.out.1
      obtain ⟨a', cap', hv, _, _, hl⟩ := hd.l_inv
      simp only [List.cons.injEq, Value.slice.injEq, and_true] at hv
      obtain ⟨rfl, _, rfl⟩ := hv
      obtain ⟨b, off, rfl, hb, hbl, hat⟩ := hl (by rw [HN.out]; omega)
      obtain ⟨x, hx⟩ : ∃ x, xs[k]? = some x := ⟨_, List.getElem?_eq_getElem (by rw [HN.out]; exact hkn)⟩
      obtain ⟨us, hu1, hu2, hu3⟩ := hat k x hx
      obtain ⟨u0, u1, rfl⟩ : ∃ u0 u1, us = [u0, u1] := by
        match us, hu1 with
        | [u0, u1], _ => exact ⟨u0, u1, rfl⟩
      have c0 : wr.cell? ⟨b, off + k * 2, none⟩ = some u0 := by simpa using hu2 0 _ rfl
      have c1 : wr.cell? ⟨b, off + k * 2 + 1, none⟩ = some u1 := by simpa using hu2 1 _ rfl
      have HC := toHid (HS.out k wr (.agg #[u0, u1]) (by rw [HN.out]; exact hkn) HE.out.1 ⟨x, [u0, u1], rfl, hx, hu3⟩)
      have s1 : (0 : Int) ≤ (k : Int) := by omega
      have s2 : (k : Int) < (n : Int) := by omega
      clear hd hl hat hu2 hu3 hx hb hbl hu1
      go_wp2_with fail
      refine HC.out.mono ?_
      rintro e w2 ⟨rfl, e2⟩
      have HP : Hid (anyN p (k + 1) = (anyN p k || p k)) := rfl
      have HQ := toHid (show p k = true → anyN p n = true from fun h => anyN_true hkn h)
      have H2 : Hid (Ext Nope w w2) := ext0 HE.out.1 e2
      clear e2 HC
      cases hpk : p k with
      | true =>
        have HK := toHid (HQ.out hpk)
        clear hpk
        go_wp2
        go_ret
        exact ⟨_, rfl, by rw [HK.out]; simp, H2.out⟩
      | false =>
        have HK : Hid (anyN p (k + 1) = false) := by unfold Hid; rw [HP.out, HE.out.2, hpk]; rfl
        clear hpk
        go_wp2
        go_roundw
        case rel => exact ⟨k + 1, by go_num, by omega, HK.out, H2.out⟩
        case measure => simp [intOf]; omega
    · have hkk : k = n := by omega
      subst hkk
      have s2 : decide ((k : Int) < (k : Int)) = false := by simp
      go_wp2
      go_ret
      exact ⟨_, rfl, by rw [HE.out.2]; decide, HE.out.1⟩
/-- slices.ContainsFunc at [][2]int,[2]int -/
theorem has_pairs2 {A : Nat → Prop} {w : World} {v : Value} {xs : List Dat} {f : FuncId} {caps : Array Value} {p : Nat → Bool} (hf : Enters f) (hr : Rd A w [v] (.l 2 xs)) (hs : Says f caps w xs.length (ElS A xs) p) :
    Calls Tryz.prog 174 #[v, .func (.func f) #[] caps] w fun e w' => e = .returned (.bool (anyN p xs.length)) ∧ Ext Nope w w' := by
  have HI := toHid (index_pairs2 hf hr hs)
  clear hr hs hf
  go_enter Tryz.func174, Tryz.ntmps174
  go_wp2_with fail
  refine HI.out.mono ?_
  rintro e w2 ⟨r, rfl, hrr, e2⟩
  have HRR := toHid (show _ ∧ _ from ⟨hrr, e2⟩)
  clear hrr e2 HI
  go_wp2
  go_ret
  exact ⟨ret_b HRR.out.1, HRR.out.2⟩
end Go.Proofs.YtajebdpalnpjdaaGreatDoor
