/-
  First.
-/
import Derived.Test.YtehgbpepaakanaaDoorCg
import Derived.Laws.StructEq
namespace Go.Proofs.YtehgbpepaakanaaDoor
open Go.RowKit Go.Shelf
set_option linter.unusedVariables false
set_option linter.unusedSimpArgs false
set_option maxRecDepth 20000

attribute [local go_sem] Oper.semAt_some

theorem all_range_same {α : Type} [DecidableEq α] (n : Nat) (xs ys : List α) (hx : xs.length = n) (hy : ys.length = n) : ((List.range n).all fun i => decide (xs[i]? = ys[i]?)) = decide (xs = ys) := by
  by_cases h : xs = ys
  · subst h
    simp
  · rw [decide_eq_false h, List.all_eq_false]
    refine Decidable.byContradiction fun hn => h (List.ext_getElem? fun i => ?_)
    by_cases hi : i < n
    · exact Decidable.byContradiction fun hne => hn ⟨i, by simpa using hi, by simpa using hne⟩
    · rw [List.getElem?_eq_none (by omega), List.getElem?_eq_none (by omega)]

theorem run_equalIn_arr {P : Program} (w : World) {α : Type} [DecidableEq α] (f : α → Value) (d : Nat) (t e : TypeId) (n : Nat) (ht : P.underlying t = some (.array n e)) (hsz : ∀ w, (sizeOf e).run P w = .ok 1 w) (hag : ∀ w, (isAgg e).run P w = .ok false w)
    (he : ∀ w a b, (Op.equalIn (d + 1) e (f a) (f b)).run P w = .ok (decide (a = b)) w)
    (xs ys : List α) (hx : xs.length = n) (hy : ys.length = n) :
    (Op.equalIn (d + 2) t (.agg (xs.map f).toArray) (.agg (ys.map f).toArray)).run P w = .ok (decide (xs = ys)) w := by
  rw [← all_range_same n xs ys hx hy, List.range_eq_range', Op.equalIn]
  simp only [Sem.run_bind, run_underlying ht, Result.andThen_ok, hsz, Std.Legacy.Range.forIn_eq_forIn_range', Std.Legacy.Range.size, Nat.sub_zero, Nat.add_sub_cancel, Nat.div_one]
  have hl : ∀ i ∈ List.range' 0 n 1, i < n := fun i hi => by simpa using (List.mem_range'_1.1 hi).2
  generalize List.range' 0 n 1 = l at hl ⊢
  induction l with
  | nil => simp
  | cons i l ih =>
    have hi : i < n := hl i (by simp)
    obtain ⟨a, ha⟩ : ∃ a, xs[i]? = some a := ⟨_, List.getElem?_eq_getElem (by omega)⟩
    obtain ⟨b, hb⟩ : ∃ b, ys[i]? = some b := ⟨_, List.getElem?_eq_getElem (by omega)⟩
    have px : (part e (xs.map f).toArray (i * 1)).run P w = .ok (f a) w := by
      simp [part, Sem.run_bind, hag, Result.andThen, ha]
    have py : (part e (ys.map f).toArray (i * 1)).run P w = .ok (f b) w := by
      simp [part, Sem.run_bind, hag, Result.andThen, hb]
    simp only [List.forIn_cons, Sem.run_bind, px, py, he, Result.andThen_ok, List.all_cons, ha, hb, Option.some.injEq]
    by_cases hab : a = b
    · simp only [hab, decide_true, Bool.not_true, Bool.false_eq_true, if_false, Sem.run_pure, Result.andThen_ok, Bool.true_and]
      exact ih fun j hj => hl j (by simp [hj])
    · simp [hab]

theorem eq133 (w : World) (d : Nat) (a0 a1 a2 a3 b0 b1 b2 b3 : Int) : (Op.equalIn (d + 2) 133 (.agg #[.int .u8 a0, .int .u8 a1, .int .u8 a2, .int .u8 a3]) (.agg #[.int .u8 b0, .int .u8 b1, .int .u8 b2, .int .u8 b3])).run Tryd.prog w = .ok (decide ([a0, a1, a2, a3] = [b0, b1, b2, b3])) w :=
  run_equalIn_arr w (Value.int .u8) d 133 5 4 Tryd.underlying133 Tryd.sizeOf5 Tryd.isAgg5 (fun w a b => by rw [run_equalIn_int w d 5 .u8 .u8 a b Tryd.underlying5]; congr 1) [a0, a1, a2, a3] [b0, b1, b2, b3] rfl rfl

theorem first_none (a : Option Addr) (d : Nat) (w : World) : Calls Tryd.prog 36 #[.slice a 0 d] w fun e w' => e = .returned (.tuple #[.slice none 0 0, .int .i64 0, .int .i64 7]) ∧ w = w' := by
  go_enter Tryd.func36, Tryd.ntmps36
  go_wp2
  go_ret3
  exact ⟨rfl, rfl⟩

set_option maxHeartbeats 1000000 in
theorem first_is (b off m d : Nat) (cs : List Int) (w : World) (hb : b < w.heap.size) (hlen : cs.length = m) (hd : m ≤ d) (hd2 : (d : Int) ≤ 9223372036854775807)
    (hc : ∀ j x, cs[j]? = some x → w.cell? ⟨b, off + j, none⟩ = some (.int .u8 x)) (hB : Byts cs)
    (c1 c2 : Int) (e : Nat) (h0 : cs[0]? = some 1) (h1 : cs[1]? = some c1) (h2 : cs[2]? = some c2) (he : (e : Int) = 3 + c1 * 256 + c2) (he0 : 3 < e) (he1 : e ≤ 4003) (he2 : e + 4 ≤ m)
    (t0 t1 t2 t3 : Int) (g0 : cs[e]? = some t0) (g1 : cs[e + 1]? = some t1) (g2 : cs[e + 2]? = some t2) (g3 : cs[e + 3]? = some t3) :
    Calls Tryd.prog 36 #[.slice (some ⟨b, off, none⟩) m d] w fun x w' =>
      (([t0, t1, t2, t3] = tl4 (sumOf (cs.take e)) ∧ ∃ a' c', x = .returned (.tuple #[.slice a' (e - 3) c', .int .i64 (e + 4 : Nat), .int .i64 0]) ∧ w'.ownsRow w.heap.size 5 1 (.slice a' (e - 3) c') (e - 3) (cellsOf encB ((cs.take e).drop 3))) ∨
       ([t0, t1, t2, t3] ≠ tl4 (sumOf (cs.take e)) ∧ x = .returned (.tuple #[.slice none 0 0, .int .i64 0, .int .i64 5]))) ∧ Below w.heap.size w w' := by
  have hq0 := hc _ _ h0
  have hq1 := hc _ _ h1
  have hq2 := hc _ _ h2
  have hq3 := hc _ _ g0
  have hq4 := hc _ _ g1
  have hq5 := hc _ _ g2
  have hq6 := hc _ _ g3
  rw [Nat.add_zero] at hq0
  have hm1 : ¬ ((m : Int) < 3) := by omega
  have hm2 : ¬ ((m : Int) = 0) := by omega
  have hm3 : ¬ (m = 0) := by omega
  have hm4 : (1 : Int) < (m : Int) := by omega
  have hm5 : (2 : Int) < (m : Int) := by omega
  have hm6 : (0 : Int) < (m : Int) := by omega
  have hb1 := hB _ (List.mem_of_getElem? h1)
  have hb2 := hB _ (List.mem_of_getElem? h2)
  obtain ⟨hb10, hb11⟩ := hb1
  obtain ⟨hb20, hb21⟩ := hb2
  have hee : 3 + c1 * 256 + c2 = (e : Int) := he.symm
  have hew : ¬ (4003 : Int) < (e : Int) := by omega
  have hew2 : ¬ (m : Int) < (e : Int) + 4 := by omega
  have hew3 : (e : Int) ≤ (d : Int) := by omega
  have hew4 : e ≤ d := by omega
  have HS := Lib.hid (sum_is b off e d (cs.take e) w.drew hb (by rw [List.length_take]; omega) (by omega) (by omega) hd2 (fun j x hx => hc j x (by
      rw [List.getElem?_take] at hx
      split at hx
      · exact hx
      · cases hx)) (hB.take e))
  have HC := Lib.hid hc
  have HH := Lib.hid (And.intro h0 (And.intro h1 (And.intro h2 (And.intro g0 (And.intro g1 (And.intro g2 g3))))))
  have HE := Lib.hid he
  clear hc h0 h1 h2 g0 g1 g2 g3 he
  go_enter Tryd.func36, Tryd.ntmps36
  go_wp2_with fail
  go_region
  go_wp2_with fail
  refine HS.out.mono ?_
  rintro x w1 ⟨rfl, hB1⟩
  replace hB1 : Below w.heap.size w w1 := ⟨hB1.os, hB1.tape, hB1.output, hB1.size, hB1.block⟩
  have harr : (Instr.arrayAt 133 (.slice (some ⟨b, off + e, none⟩) (m - e) (d - e))).run Tryd.prog w1 = .ok (.pointer (some ⟨b, off + e, none⟩)) w1 := by
    have : ¬ m - e < 4 := by omega
    simp [Instr.arrayAt, run_underlying Tryd.underlying133, this]
  have hq3' := (hB1.cell (p := ⟨b, off + e, none⟩) hb).trans hq3
  have hq4' := (hB1.cell (p := ⟨b, off + (e + 1), none⟩) hb).trans hq4
  have hq5' := (hB1.cell (p := ⟨b, off + (e + 2), none⟩) hb).trans hq5
  have hq6' := (hB1.cell (p := ⟨b, off + (e + 3), none⟩) hb).trans hq6
  rw [← Nat.add_assoc] at hq4' hq5' hq6'
  clear hq0 hq1 hq2 hq3 hq4 hq5 hq6
  have hs := sumOf_range (cs.take e)
  obtain ⟨s, hs'⟩ : ∃ s, s = sumOf (cs.take e) := ⟨_, rfl⟩
  rw [← hs'] at hs ⊢
  have HSS := Lib.hid hs'
  clear hs' HS
  obtain ⟨hs0, hs1⟩ := hs
  have hde : 4 ≤ m - e := by omega
  have hem : e ≤ m := by omega
  have hem' : (e : Int) ≤ (m : Int) := by omega
  have hde' : ¬ d = e := by omega
  have e1 : s / 16777216 % 256 = s / 16777216 := by omega
  have hT : tl4 s = [s / 16777216, s / 65536 % 256, s / 256 % 256, s % 256] := by rw [tl4, e1]
  have HE4 := eq133 w1 9998 t0 t1 t2 t3 (s / 16777216) (s / 65536 % 256) (s / 256 % 256) (s % 256)
  rw [← hT] at HE4
  have HEE := Lib.hid hT
  clear e1 hT
  have hcl : Hid (∀ j x, ((cs.take e).drop 3)[j]? = some x → w1.cell? ⟨b, off + 3 + j, none⟩ = some (.int .u8 x)) := by
    intro j x hx
    rw [List.getElem?_drop, List.getElem?_take] at hx
    split at hx
    · have := HC.out _ _ hx
      rw [← Nat.add_assoc] at this
      exact (hB1.cell (p := ⟨b, off + 3 + j, none⟩) hb).trans this
    · cases hx
  have hl3 : ((cs.take e).drop 3).length = e - 3 := by rw [List.length_drop, List.length_take]; omega
  have he3 : 3 ≤ e := by have := HE.out; omega
  have HCl := Lib.hid (cloneB (some ⟨b, off + 3, none⟩) (e - 3) (e - 3) ((cs.take e).drop 3) w1 (.inr ⟨b, off + 3, rfl, Nat.lt_of_lt_of_le hb hB1.size, hl3, Nat.le_refl _, by omega, hcl.out⟩) (by omega))
  have HL3 := Lib.hid hl3
  clear hl3
  have he3i : (3 : Int) ≤ (e : Int) := by omega
  have he3n : ¬ e = 3 := by omega
  have he3n' : ¬ (e : Int) = 3 := by omega
  by_cases hq : [t0, t1, t2, t3] = tl4 s
  · rw [decide_eq_true hq] at HE4
    go_wp2_with fail
    refine HCl.out.mono ?_
    rintro x w2 ⟨v2, rfl, hown, hnew, hB2⟩
    obtain ⟨a2, d2, rfl⟩ := BS.slice hown
    have hown' : w2.ownsRow w.heap.size 5 1 (.slice a2 (e - 3) d2) (e - 3) (cellsOf encB ((cs.take e).drop 3)) := by
      have := ownsRow_base (base' := w.heap.size) (show w2.ownsRow 0 5 1 _ _ _ from hown) (fun g hg => Nat.le_trans hB1.size (hnew g hg))
      rwa [HL3.out] at this
    have HO := Lib.hid hown'
    have hB3 := hB1.trans (hB2.mono hB1.size)
    rw [HL3.out]
    clear hown hnew hown' hB2
    go_wp2_with fail
    go_ret3
    exact ⟨.inl ⟨by rw [← HSS.out]; exact hq, a2, d2, rfl, HO.out⟩, hB3⟩
  · rw [decide_eq_false hq] at HE4
    go_wp2_with fail
    go_ret3
    exact ⟨.inr ⟨by rw [← HSS.out]; exact hq, rfl⟩, hB1⟩
end Go.Proofs.YtehgbpepaakanaaDoor
