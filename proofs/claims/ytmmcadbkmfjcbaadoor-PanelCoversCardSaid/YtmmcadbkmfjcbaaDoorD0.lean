/-
  A rectangle that is written in its place in a row of rectangles.
-/
import Derived.Test.YtmmcadbkmfjcbaaDoorC5
namespace Go.Proofs.YtmmcadbkmfjcbaaDoor

abbrev put4 (w : World) (g o : Nat) (c : R) : World := (((w.setCell ⟨g, o, none⟩ (.int .i64 c.x)).setCell ⟨g, o + 1, none⟩ (.int .i64 c.y)).setCell ⟨g, o + 2, none⟩ (.int .i64 c.w)).setCell ⟨g, o + 3, none⟩ (.int .i64 c.h)
theorem put4_ext {S : Nat → Prop} {a b : World} (h : Ext S a b) (g o : Nat) (c : R) (hg : g < a.heap.size → S g) : Ext S a (put4 b g o c) := (((h.setCell _ _ hg _).setCell _ _ hg _).setCell _ _ hg _).setCell _ _ hg _
theorem set_mid (A B : List Value) (x0 x1 x2 x3 y0 y1 y2 y3 : Value) (o : Nat) (ho : A.length = o) :
    ((((A ++ x0 :: x1 :: x2 :: x3 :: B).set o y0).set (o + 1) y1).set (o + 2) y2).set (o + 3) y3 = A ++ y0 :: y1 :: y2 :: y3 :: B := by
  subst ho
  induction A with
  | nil => rfl
  | cons z A ih => simp only [List.cons_append, List.length_cons, List.set_cons_succ, show A.length + 1 + 1 = (A.length + 1) + 1 from rfl, show A.length + 1 + 2 = (A.length + 2) + 1 from rfl, show A.length + 1 + 3 = (A.length + 3) + 1 from rfl]; rw [ih]
theorem row_put {w : World} {g k : Nat} {a b : List R} {p : R} {sp : List Value} (h : Row w g (rectCells (a ++ p :: b) ++ sp)) (hk : a.length = k) (c : R) : Row (put4 w g (k * 4) c) g (rectCells (a ++ c :: b) ++ sp) := by
  have e : ∀ q : R, rectCells (a ++ q :: b) ++ sp = rectCells a ++ .int .i64 q.x :: .int .i64 q.y :: .int .i64 q.w :: .int .i64 q.h :: (rectCells b ++ sp) := fun q => by
    rw [show a ++ q :: b = a ++ ([q] ++ b) by simp, rectCells_append, rectCells_append, rectCells_one]; simp
  rw [e] at h ⊢
  have h4 := heap_setCell_eq _ g (k * 4 + 3) (.int .i64 c.h) _ _ _ (heap_setCell_eq _ g (k * 4 + 2) (.int .i64 c.w) _ _ _ (heap_setCell_eq _ g (k * 4 + 1) (.int .i64 c.y) _ _ _ (heap_setCell_eq _ g (k * 4) (.int .i64 c.x) _ _ _ h)))
  simp only [List.setIfInBounds_toArray] at h4
  rw [set_mid _ _ _ _ _ _ _ _ _ _ _ (by rw [rectCells_length, hk])] at h4
  exact h4
/-- The rectangle number k is written anew. -/
theorem rects_put {w : World} {base g n cap k : Nat} {rs a b : List R} {p : R} (h : RectsAt w base (.slice (some ⟨g, 0, none⟩) n cap) rs) (e : rs = a ++ p :: b) (hk : a.length = k) (c : R) :
    RectsAt (put4 w g (k * 4) c) base (.slice (some ⟨g, 0, none⟩) n cap) (a ++ c :: b) := by
  obtain ⟨h1, h2, h3, h4, sp, h5, h6⟩ := rects_row h
  subst e
  have hl : (a ++ c :: b).length = n := by rw [← h1]; simp
  have := row_rects (base := base) (cap := cap) (row_put h5 hk c) rfl (by rw [← h6]; simp [rectCells_length]) h2 (by rw [hl]; exact h3) h4
  rw [hl] at this
  exact this
theorem rects_free {w : World} {base g n cap : Nat} {rs : List R} (h : RectsAt w base (.slice (some ⟨g, 0, none⟩) n cap) rs) (o : Nat) : w.frozen? ⟨g, o, none⟩ = false := by
  obtain ⟨_, _, _, _, sp, h5, _⟩ := rects_row h
  exact free_of_blk h5 o
theorem last_split {rs : List R} (h : 0 < rs.length) : ∃ a p, rs = a ++ [p] ∧ a.length = rs.length - 1 ∧ rs.getD (rs.length - 1) zeroR = p ∧ ∀ c, rs.set (rs.length - 1) c = a ++ [c] := by
  obtain ⟨p, a1, a2, e1, e2⟩ := nth_split (xs := rs) (k := rs.length - 1) (by omega)
  have h2 : a2 = [] := by
    cases a2 with
    | nil => rfl
    | cons z zs => rw [e1] at e2 h; simp at e2
  subst h2
  refine ⟨a1, p, e1, e2, ?_, fun c => ?_⟩
  · rw [List.getD_eq_getElem?_getD, ← e2, e1]; simp
  · rw [← e2, e1]; simp
/-- What lies behind the next one is drawn up. -/
theorem cut_row (p1 p3 : List R) (c r : R) (sp : List Value) (bk : Nat) (hk : p1.length = bk) : ∃ sp', splice (rectCells (p1 ++ c :: r :: p3) ++ sp) ((bk + 1) * 4) (rectCells p3) = rectCells (p1 ++ c :: p3) ++ sp' := by
  refine ⟨(rectCells (p1 ++ c :: r :: p3) ++ sp).drop ((bk + 1) * 4 + (rectCells p3).length), ?_⟩
  unfold splice
  have e : p1 ++ c :: r :: p3 = (p1 ++ [c]) ++ (r :: p3) := by simp
  have h1 : (rectCells (p1 ++ c :: r :: p3) ++ sp).take ((bk + 1) * 4) = rectCells (p1 ++ [c]) := by
    rw [e, rectCells_append, List.append_assoc, List.take_append_of_le_length (by rw [rectCells_length]; simp [hk]), List.take_of_length_le (by rw [rectCells_length]; simp [hk])]
  rw [h1, ← List.append_assoc, ← rectCells_append]
  simp
theorem drop_two (p1 p3 : List R) (c r : R) (bk : Nat) (hk : p1.length = bk) : (p1 ++ c :: r :: p3).drop (bk + 2) = p3 := by
  subst hk
  rw [List.drop_append]
  simp
def lenOf (v : Value) : Nat := match v with | .slice _ n _ => n | _ => 0
theorem thin_step' {init : Int} {many f : Nat} {rs : List R} (h : many < rs.length) : thinA init many (f + 1) rs = thinA init many f (joinA rs (bestA init rs (rs.length - 1)).1) := by rw [thinA, if_pos h]
theorem thin_end' {init : Int} {many f : Nat} {rs : List R} (h : rs.length ≤ many) : thinA init many f rs = rs := by
  cases f with
  | zero => rfl
  | succ f => rw [thinA, if_neg (by omega)]
end Go.Proofs.YtmmcadbkmfjcbaaDoor
