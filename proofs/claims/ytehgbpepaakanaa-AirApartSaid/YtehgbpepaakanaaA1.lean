/-
  The law of air: Same, of any letters; does in the air's words.
-/
import Derived.Test.YtehgbpepaakanaaZ
namespace Go.Proofs.Ytehgbpepaakanaa
open Go.RowKit Go.Joins
set_option linter.unusedVariables false
set_option linter.unusedSimpArgs false

set_option maxHeartbeats 1000000 in
theorem refSame_any (f t : Int) (a : Option Addr) (m d : Nat) (bs : List Int) (f' t' : Int) (a' : Option Addr) (m' d' : Nat) (bs' : List Int) :
    ∃ s, (f = f' → t = t' → bs = bs' → s = true) ∧ ∀ w, BR w a m d bs → BR w a' m' d' bs' → Calls Try.prog 17 #[.agg #[.int .u8 f, .int .u8 t, .slice a m d], .agg #[.int .u8 f', .int .u8 t', .slice a' m' d']] w fun e w' => e = .returned (.bool s) ∧ Below w.heap.size w w' := by
  have hX : ∀ w, BR w a m d bs → BR w a' m' d' bs' → ∃ w2, (w.alloc (.cells #[.int .u8 f, .int .u8 t, .slice a m d] 48)).alloc (.cells #[.int .u8 f', .int .u8 t', .slice a' m' d'] 48) = w2 ∧
      w2.heap[w.heap.size]? = some (.cells #[.int .u8 f, .int .u8 t, .slice a m d] 48 (0, 0)) ∧ w2.heap[w.heap.size + 1]? = some (.cells #[.int .u8 f', .int .u8 t', .slice a' m' d'] 48 (0, 0)) ∧ Below w.heap.size w w2 ∧
      (convert 26 9 (.slice a m d)).run Try.prog w2 = .ok (.string (strOfNums bs)) w2 ∧ (convert 26 9 (.slice a' m' d')).run Try.prog w2 = .ok (.string (strOfNums bs')) w2 := by
    intro w h h'
    obtain ⟨w2, hw, b1, b2, hB⟩ := two_box w #[.int .u8 f, .int .u8 t, .slice a m d] #[.int .u8 f', .int .u8 t', .slice a' m' d'] 48 48
    exact ⟨w2, hw, b1, b2, hB, (h.below hB).str, (h'.below hB).str⟩
  by_cases hf : f = f'
  · subst hf
    by_cases ht : t = t'
    · subst ht
      refine ⟨(strOfNums bs).toList == (strOfNums bs').toList, fun _ _ e => by simp [e], fun w h h' => ?_⟩
      obtain ⟨w2, hw, b1, b2, hB, k1, k2⟩ := hX w h h'
      have x0 := blk_cell b1 0
      have x1 := blk_cell b1 1
      have x2 := blk_cell b1 2
      have y0 := blk_cell b2 0
      have y1 := blk_cell b2 1
      have y2 := blk_cell b2 2
      simp at x0 x1 x2 y0 y1 y2
      have HW := Lib.hid hw
      clear hX h h' b1 b2 hw
      go_enter Try.func17, Try.ntmps17
      go_upto_region 1 with fail
      rw [HW.out]
      go_wp2_with fail
      go_ret
      exact ⟨rfl, hB⟩
    · refine ⟨false, fun _ e => absurd e ht, fun w h h' => ?_⟩
      obtain ⟨w2, hw, b1, b2, hB, k1, k2⟩ := hX w h h'
      have x0 := blk_cell b1 0
      have x1 := blk_cell b1 1
      have x2 := blk_cell b1 2
      have y0 := blk_cell b2 0
      have y1 := blk_cell b2 1
      have y2 := blk_cell b2 2
      simp at x0 x1 x2 y0 y1 y2
      have HW := Lib.hid hw
      have htb : (t == t') = false := by simpa using ht
      clear hX h h' b1 b2 hw ht
      go_enter Try.func17, Try.ntmps17
      go_upto_region 1 with fail
      rw [HW.out]
      go_wp2_with fail
      go_ret
      exact ⟨rfl, hB⟩
  · refine ⟨false, fun e => absurd e hf, fun w h h' => ?_⟩
    obtain ⟨w2, hw, b1, b2, hB, k1, k2⟩ := hX w h h'
    have x0 := blk_cell b1 0
    have x1 := blk_cell b1 1
    have x2 := blk_cell b1 2
    have y0 := blk_cell b2 0
    have y1 := blk_cell b2 1
    have y2 := blk_cell b2 2
    simp at x0 x1 x2 y0 y1 y2
    have HW := Lib.hid hw
    have hfb : (f == f') = false := by simpa using hf
    clear hX h h' b1 b2 hw hf
    go_enter Try.func17, Try.ntmps17
    go_upto_region 1 with fail
    rw [HW.out]
    go_wp2_with fail
    go_ret
    exact ⟨rfl, hB⟩

/-! ### the reference's letters beside the air's -/
theorem toEnd_parts (t : Int) (xs : List LX) (k : Nat) (x : LX) (hk : xs[k]? = some x) (hx : x.lv.t = t) : toEnd t xs = toEnd t (xs.take k) ++ x :: toEnd t (xs.drop (k + 1)) := by
  obtain ⟨hl, hk⟩ := List.getElem?_eq_some_iff.1 hk
  have e : xs = xs.take k ++ x :: xs.drop (k + 1) := by rw [← hk, List.getElem_cons_drop, List.take_append_drop]
  have h2 : toEnd t (x :: xs.drop (k + 1)) = x :: toEnd t (xs.drop (k + 1)) := by simp [toEnd, hx]
  rw [← h2]
  unfold toEnd
  rw [← List.filter_append, ← e]
theorem toEnd_skip (t : Int) (xs : List LX) (k : Nat) (x : LX) (hk : xs[k]? = some x) (hx : x.lv.t ≠ t) : toEnd t xs = toEnd t (xs.take k) ++ toEnd t (xs.drop (k + 1)) := by
  obtain ⟨hl, hk⟩ := List.getElem?_eq_some_iff.1 hk
  have e : xs = xs.take k ++ x :: xs.drop (k + 1) := by rw [← hk, List.getElem_cons_drop, List.take_append_drop]
  have h2 : toEnd t (x :: xs.drop (k + 1)) = toEnd t (xs.drop (k + 1)) := by simp [toEnd, hx]
  rw [← h2]
  unfold toEnd
  rw [← List.filter_append, ← e]
theorem toEnd_app (t : Int) (xs ys : List LX) : toEnd t (xs ++ ys) = toEnd t xs ++ toEnd t ys := List.filter_append ..
theorem erase_parts {α : Type} (xs : List α) (k : Nat) : xs.eraseIdx k = xs.take k ++ xs.drop (k + 1) := List.eraseIdx_eq_take_drop_succ ..
theorem set_parts {α : Type} (xs : List α) (k : Nat) (y : α) (h : k < xs.length) : xs.set k y = xs.take k ++ y :: xs.drop (k + 1) := by rw [List.set_eq_take_append_cons_drop, if_pos h]
theorem toEnd_erase (t : Int) (xs : List LX) (k : Nat) (x : LX) (hk : xs[k]? = some x) (hx : x.lv.t = t) : toEnd t (xs.eraseIdx k) = (toEnd t xs).eraseIdx (toEnd t (xs.take k)).length := by
  rw [toEnd_parts t xs k x hk hx, erase_parts, toEnd_app, List.eraseIdx_append_of_length_le (Nat.le_refl _), Nat.sub_self, List.eraseIdx_cons_zero]
theorem toEnd_erase_other (t : Int) (xs : List LX) (k : Nat) (x : LX) (hk : xs[k]? = some x) (hx : x.lv.t ≠ t) : toEnd t (xs.eraseIdx k) = toEnd t xs := by
  rw [toEnd_skip t xs k x hk hx, erase_parts, toEnd_app]
theorem toEnd_set (t : Int) (xs : List LX) (k : Nat) (x y : LX) (hk : xs[k]? = some x) (hx : x.lv.t = t) (hy : y.lv.t = t) : toEnd t (xs.set k y) = (toEnd t xs).set (toEnd t (xs.take k)).length y := by
  have hl := (List.getElem?_eq_some_iff.1 hk).1
  rw [toEnd_parts t xs k x hk hx, set_parts _ _ _ hl, toEnd_app, List.set_append_right _ _ (Nat.le_refl _), Nat.sub_self, List.set_cons_zero]
  simp [toEnd, hy]
theorem toEnd_set_other (t : Int) (xs : List LX) (k : Nat) (x y : LX) (hk : xs[k]? = some x) (hx : x.lv.t ≠ t) (hy : y.lv.t ≠ t) : toEnd t (xs.set k y) = toEnd t xs := by
  have hl := (List.getElem?_eq_some_iff.1 hk).1
  rw [toEnd_skip t xs k x hk hx, set_parts _ _ _ hl, toEnd_app]
  simp [toEnd, hy]
theorem toEnd_find (t : Int) (xs : List LX) (n : Nat) (x : LX) (h : (toEnd t xs)[n]? = some x) : ∃ k, xs[k]? = some x ∧ x.lv.t = t ∧ (toEnd t (xs.take k)).length = n := by
  induction xs generalizing n with
  | nil => simp [toEnd] at h
  | cons y r ih =>
    by_cases hy : y.lv.t = t
    · have e : toEnd t (y :: r) = y :: toEnd t r := by simp [toEnd, hy]
      rw [e] at h
      cases n with
      | zero => simp at h; subst h; exact ⟨0, rfl, hy, rfl⟩
      | succ n =>
        obtain ⟨k, h1, h2, h3⟩ := ih n (by simpa using h)
        refine ⟨k + 1, by simpa using h1, h2, ?_⟩
        rw [List.take_succ_cons]
        have : toEnd t (y :: r.take k) = y :: toEnd t (r.take k) := by simp [toEnd, hy]
        rw [this, List.length_cons, h3]
    · have e : toEnd t (y :: r) = toEnd t r := by simp [toEnd, hy]
      rw [e] at h
      obtain ⟨k, h1, h2, h3⟩ := ih n h
      refine ⟨k + 1, by simpa using h1, h2, ?_⟩
      rw [List.take_succ_cons]
      have : toEnd t (y :: r.take k) = toEnd t (r.take k) := by simp [toEnd, hy]
      rw [this, h3]

/-- A letter that may be under way. -/
def LX.ok (x : LX) : Prop := 0 ≤ x.lv.t ∧ x.lv.t < 17 ∧ x.lv.f < 17 ∧ x.lv.m ≤ 4000 ∧ x.bs.length = x.lv.m
/-- The air's letters by end, and the reference's in one list. -/
def Tie (st : Nat → List Lt) (xs : List LX) : Prop := (∀ i : Nat, i < 17 → st i = (toEnd i xs).map LX.lt) ∧ ∀ x ∈ xs, x.ok
theorem Tie.len {st : Nat → List Lt} {xs : List LX} (h : Tie st xs) {t : Nat} (ht : t < 17) : (st t).length = (toEnd t xs).length := by rw [h.1 t ht, List.length_map]
theorem Tie.find {st : Nat → List Lt} {xs : List LX} (h : Tie st xs) {t n : Nat} {y : Lt} (ht : t < 17) (hy : (st t)[n]? = some y) : ∃ (k : Nat) (x : LX), xs[k]? = some x ∧ x.lv.t = t ∧ (toEnd t (xs.take k)).length = n ∧ x.lt = y ∧ x.ok := by
  rw [h.1 t ht] at hy
  obtain ⟨x, hx, e⟩ := some_lx hy
  obtain ⟨k, h1, h2, h3⟩ := toEnd_find t xs n x hx
  exact ⟨k, x, h1, h2, h3, e, h.2 x (List.mem_of_getElem? h1)⟩
theorem Tie.erase {st : Nat → List Lt} {xs : List LX} (h : Tie st xs) {t k : Nat} {x : LX} (hk : xs[k]? = some x) (hx : x.lv.t = t) : Tie (upd st t ((st t).eraseIdx (toEnd t (xs.take k)).length)) (xs.eraseIdx k) := by
  refine ⟨fun i hi => ?_, fun y hy => h.2 y (List.mem_of_mem_eraseIdx hy)⟩
  by_cases e : i = t
  · subst e; rw [upd_same, toEnd_erase i xs k x hk hx, map_erase, h.1 i hi]
  · rw [upd_other _ _ e, toEnd_erase_other i xs k x hk (by rw [hx]; omega)]; exact h.1 i hi
theorem Tie.push {st : Nat → List Lt} {xs : List LX} (h : Tie st xs) {t : Nat} {x : LX} (hx : x.lv.t = t) (hok : x.ok) : Tie (upd st t (st t ++ [x.lt])) (xs ++ [x]) := by
  refine ⟨fun i hi => ?_, fun y hy => ?_⟩
  · by_cases e : i = t
    · subst e
      have : toEnd (i : Int) [x] = [x] := by simp [toEnd, hx]
      rw [upd_same, toEnd_app, this, List.map_append, ← h.1 i hi]; rfl
    · have : toEnd (i : Int) [x] = [] := by simp [toEnd, hx]; omega
      rw [upd_other _ _ e, toEnd_app, this, List.append_nil]; exact h.1 i hi
  · rcases List.mem_append.1 hy with hy | hy
    · exact h.2 y hy
    · obtain rfl := List.mem_singleton.1 hy; exact hok
theorem Tie.set {st : Nat → List Lt} {xs : List LX} (h : Tie st xs) {t k : Nat} {x y : LX} (hk : xs[k]? = some x) (hx : x.lv.t = t) (hy : y.lv.t = t) (hok : y.ok) : Tie (upd st t ((st t).set (toEnd t (xs.take k)).length y.lt)) (xs.set k y) := by
  refine ⟨fun i hi => ?_, fun z hz => ?_⟩
  · by_cases e : i = t
    · subst e; rw [upd_same, toEnd_set i xs k x y hk hx hy, List.map_set, h.1 i hi]
    · rw [upd_other _ _ e, toEnd_set_other i xs k x y hk (by rw [hx]; omega) (by rw [hy]; omega)]; exact h.1 i hi
  · rcases List.mem_or_eq_of_mem_set hz with hz | rfl
    · exact h.2 z hz
    · exact hok

end Go.Proofs.Ytehgbpepaakanaa
