/-
  A frame that was changed in one byte behind its size has a wrong sum.
-/
import Derived.Test.YtehgbpepaakanaaDoorEe
namespace Go.Proofs.YtehgbpepaakanaaDoor
open Go.RowKit Go.Shelf
set_option linter.unusedVariables false
set_option linter.unusedSimpArgs false
set_option maxRecDepth 20000

theorem adler_fst (l : List Int) : (adler l).1 = 1 + l.sum := by unfold adler; rw [fold_fst]
theorem sum_set (l : List Int) (p : Nat) (x y : Int) (h : l[p]? = some x) : (l.set p y).sum = l.sum - x + y := by
  induction l generalizing p with
  | nil => simp at h
  | cons a r ih =>
    cases p with
    | zero => simp at h; subst h; simp; omega
    | succ p =>
      simp only [List.getElem?_cons_succ] at h
      simp only [List.set_cons_succ, List.sum_cons, ih p h]
      omega
theorem sumOf_fst (l : List Int) : sumOf l % 65536 = (1 + l.sum) % 65521 := by unfold sumOf; rw [adler_fst]; omega
theorem tl4_inj (a b : Int) (ha : 0 ≤ a ∧ a < 4294967296) (hb : 0 ≤ b ∧ b < 4294967296) (h : tl4 a = tl4 b) : a = b := by
  simp only [tl4, List.cons.injEq, and_true] at h
  omega
theorem set_ne (l : List Int) (p : Nat) (x y : Int) (h : l[p]? = some x) (hne : y ≠ x) : l.set p y ≠ l := by
  intro e
  have := congrArg (fun z : List Int => z[p]?) e
  rw [List.getElem?_set_self (List.getElem?_eq_some_iff.1 h).1, h] at this
  exact hne (Option.some.inj this)

/-- What dec_bad asks of the changed frame. -/
theorem spoilt (bs : List Int) (p : Nat) (x y : Int) (hB : Byts bs) (hp : 3 ≤ p) (hx : (frameOf bs)[p]? = some x) (hne : y ≠ x) (hy : 0 ≤ y ∧ y < 256) (hbs : bs.length ≤ 4000) :
    ∃ t0 t1 t2 t3, ((frameOf bs).set p y)[0]? = some 1 ∧ ((frameOf bs).set p y)[1]? = some ((bs.length : Int) / 256 % 256) ∧ ((frameOf bs).set p y)[2]? = some ((bs.length : Int) % 256) ∧
      ((frameOf bs).set p y)[bs.length + 3]? = some t0 ∧ ((frameOf bs).set p y)[bs.length + 3 + 1]? = some t1 ∧ ((frameOf bs).set p y)[bs.length + 3 + 2]? = some t2 ∧ ((frameOf bs).set p y)[bs.length + 3 + 3]? = some t3 ∧
      [t0, t1, t2, t3] ≠ tl4 (sumOf (((frameOf bs).set p y).take (bs.length + 3))) ∧ Byts ((frameOf bs).set p y) := by
  have hfl := frameOf_len bs
  have h0 : ((frameOf bs).set p y)[0]? = some 1 := by rw [List.getElem?_set_ne (by omega)]; rfl
  have h1 : ((frameOf bs).set p y)[1]? = some ((bs.length : Int) / 256 % 256) := by rw [List.getElem?_set_ne (by omega)]; rfl
  have h2 : ((frameOf bs).set p y)[2]? = some ((bs.length : Int) % 256) := by rw [List.getElem?_set_ne (by omega)]; rfl
  have hby : Byts ((frameOf bs).set p y) := by
    intro z hz
    rcases List.mem_or_eq_of_mem_set hz with h | h
    · exact frameOf_byts hB z h
    · subst h; exact hy
  obtain ⟨s0, s1, s2, s3, hs⟩ : ∃ s0 s1 s2 s3, tl4 (sumOf (hdr bs)) = [s0, s1, s2, s3] := ⟨_, _, _, _, rfl⟩
  have g := frame_tail bs
  rw [hs] at g
  have g0 : (frameOf bs)[bs.length + 3]? = some s0 := by simpa using g 0
  have g1 : (frameOf bs)[bs.length + 3 + 1]? = some s1 := by simpa using g 1
  have g2 : (frameOf bs)[bs.length + 3 + 2]? = some s2 := by simpa using g 2
  have g3 : (frameOf bs)[bs.length + 3 + 3]? = some s3 := by simpa using g 3
  by_cases hpe : p < bs.length + 3
  · refine ⟨s0, s1, s2, s3, h0, h1, h2, by rw [List.getElem?_set_ne (by omega)]; exact g0, by rw [List.getElem?_set_ne (by omega)]; exact g1, by rw [List.getElem?_set_ne (by omega)]; exact g2, by rw [List.getElem?_set_ne (by omega)]; exact g3, ?_, hby⟩
    intro e
    rw [← hs] at e
    have e2 := tl4_inj _ _ (sumOf_range _) (sumOf_range _) e
    have ht : ((frameOf bs).set p y).take (bs.length + 3) = (hdr bs).set p y := by
      rw [List.take_set, frame_take]
    rw [ht] at e2
    have hxp : (hdr bs)[p]? = some x := by
      have : ((frameOf bs).take (bs.length + 3))[p]? = some x := by rw [List.getElem?_take, if_pos hpe]; exact hx
      rwa [frame_take] at this
    have hx2 := hdr_byts hB x (List.mem_of_getElem? hxp)
    have e3 := sumOf_fst (hdr bs)
    have e4 := sumOf_fst ((hdr bs).set p y)
    rw [sum_set _ _ _ _ hxp] at e4
    rw [e2] at e3
    omega
  · have hlt : p < bs.length + 7 := by rw [← hfl]; exact (List.getElem?_eq_some_iff.1 hx).1
    have ht : ((frameOf bs).set p y).take (bs.length + 3) = hdr bs := by
      rw [List.take_set_of_le (by omega), frame_take]
    rw [ht, hs]
    have q : p = bs.length + 3 ∨ p = bs.length + 3 + 1 ∨ p = bs.length + 3 + 2 ∨ p = bs.length + 3 + 3 := by omega
    have self : ∀ r, r = p → ((frameOf bs).set p y)[r]? = some y := by rintro r rfl; exact List.getElem?_set_self (by rw [hfl]; exact hlt)
    rcases q with rfl | rfl | rfl | rfl
    · refine ⟨y, s1, s2, s3, h0, h1, h2, self _ rfl, by rw [List.getElem?_set_ne (by omega)]; exact g1, by rw [List.getElem?_set_ne (by omega)]; exact g2, by rw [List.getElem?_set_ne (by omega)]; exact g3, ?_, hby⟩
      rw [g0] at hx; cases hx
      simpa using hne
    · refine ⟨s0, y, s2, s3, h0, h1, h2, by rw [List.getElem?_set_ne (by omega)]; exact g0, self _ rfl, by rw [List.getElem?_set_ne (by omega)]; exact g2, by rw [List.getElem?_set_ne (by omega)]; exact g3, ?_, hby⟩
      rw [g1] at hx; cases hx
      simpa using hne
    · refine ⟨s0, s1, y, s3, h0, h1, h2, by rw [List.getElem?_set_ne (by omega)]; exact g0, by rw [List.getElem?_set_ne (by omega)]; exact g1, self _ rfl, by rw [List.getElem?_set_ne (by omega)]; exact g3, ?_, hby⟩
      rw [g2] at hx; cases hx
      simpa using hne
    · refine ⟨s0, s1, s2, y, h0, h1, h2, by rw [List.getElem?_set_ne (by omega)]; exact g0, by rw [List.getElem?_set_ne (by omega)]; exact g1, by rw [List.getElem?_set_ne (by omega)]; exact g2, self _ rfl, ?_, hby⟩
      rw [g3] at hx; cases hx
      simpa using hne
end Go.Proofs.YtehgbpepaakanaaDoor
