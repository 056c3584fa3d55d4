/-
  An argument that is a slice of calls, opened.
-/
import Derived.Test.YtaodgilfoihkfaaStays
import Derived.Test.YtaodgilfoihkfaaO
import Derived.Deep.Slices
namespace Go.Proofs.Ytaodgilfoihkfaa
open Go.ChangeShapes Go.WideShapes Go.ChangeAt Go.RowKit Go.Joins
set_option linter.unusedVariables false
set_option linter.unusedSimpArgs false

theorem choose_list {α : Type} (P : Nat → α → Prop) : ∀ n, (∀ i, i < n → ∃ x, P i x) → ∃ l : List α, l.length = n ∧ ∀ (j : Nat) (x : α), l[j]? = some x → P j x
  | 0, _ => ⟨[], rfl, by simp⟩
  | n + 1, h => by
    obtain ⟨l, hl, hp⟩ := choose_list P n (fun i hi => h i (by omega))
    obtain ⟨x, hx⟩ := h n (by omega)
    refine ⟨l ++ [x], by simp [hl], fun j y hy => ?_⟩
    by_cases hj : j < n
    · rw [List.getElem?_append_left (by omega)] at hy
      exact hp j y hy
    · rw [List.getElem?_append_right (by omega)] at hy
      have : j - l.length = 0 := by
        have := (List.getElem?_eq_some_iff.1 hy).1
        simp at this
        omega
      have hjn : j = n := by omega
      subst hjn
      rw [this] at hy
      simp at hy
      subst hy
      exact hx

section
variable {H : Type} {enc : TypeId × Value → H} {w : World} {base : Nat} {spare : Nat → Bool} {held : Bool}
theorem open_acts {r : Reach} {b0 : Nat} {v : Value} {d : DataW H} {p : List MemPlace} (hv : Value.okWide Try.prog w r b0 45 v) (h : DataW.Trod enc Try.prog w base spare held 45 v d p) :
    ∃ (a : Option Addr) (len cap : Nat) (acs : List Ac), v = .slice a len cap ∧ Acts w.heap.size w a acs ∧ acs.length = len ∧ (len : Int) ≤ 9223372036854775807 := by
  obtain ⟨a, len, cap, rfl⟩ := okWide_slice Try.underlying45 hv
  obtain ⟨fuel, hf⟩ := h
  rcases Go.Deep.open_slice Try.underlying45 hf with ⟨hcs, _⟩ | ⟨x, l, c, m, n, D, Pl, hcs, hb, hlc, hm, hmm, hx, hi⟩
  · simp [Value.cells] at hcs
    obtain ⟨rfl, rfl, rfl⟩ := hcs
    exact ⟨_, _, _, [], rfl, .inl rfl, rfl, by decide⟩
  · simp [Value.cells] at hcs
    obtain ⟨rfl, rfl, rfl⟩ := hcs
    have e27 : Try.prog.cellsOf 27 = 4 := by kernel_rfl
    rw [e27] at hi
    have hml : len ≤ m := by
      rw [hmm]
      split <;> omega
    have hmax : (len : Int) ≤ 9223372036854775807 := by simp only [maxLen] at hm; omega
    have each : ∀ i, i < len → ∃ ac : Ac, w.cell? (x.add (i * 4)) = some (.bool ac.h) ∧ w.cell? (x.add (i * 4 + 1)) = some (.int .u8 (ac.who : Int)) ∧ w.cell? (x.add (i * 4 + 2)) = some (.int .i64 ac.ep) ∧ w.cell? (x.add (i * 4 + 3)) = some (.int .i64 ac.vote) := by
      intro i hil
      obtain ⟨cs', hc, ht'⟩ := hi i (by omega)
      obtain ⟨_, hcl, hat⟩ := World.cells?_some hc
      obtain ⟨xs, n', _, _, _, hxl, hg⟩ := DataW.trod_struct Try.underlying27 ht'
      have hxl4 : xs.length = 4 := hxl
      match cs', hcl with
      | [c0, c1, c2, c3], _ =>
        match xs, hxl4 with
        | [y0, y1, y2, y3], _ =>
          have g0 : DataW.trod enc Try.prog w base spare held n' 4 [c0] = some y0 := hg 0 _ rfl
          have g1 : DataW.trod enc Try.prog w base spare held n' 5 [c1] = some y1 := hg 1 _ rfl
          have g2 : DataW.trod enc Try.prog w base spare held n' 3 [c2] = some y2 := hg 2 _ rfl
          have g3 : DataW.trod enc Try.prog w base spare held n' 3 [c3] = some y3 := hg 3 _ rfl
          obtain ⟨x0, e0, _⟩ := DataW.trod_bool Try.underlying4 g0
          obtain ⟨x1, e1, _, w1⟩ := DataW.trod_int Try.underlying5 g1
          obtain ⟨x2, e2, _, _⟩ := DataW.trod_int Try.underlying3 g2
          obtain ⟨x3, e3, _, _⟩ := DataW.trod_int Try.underlying3 g3
          simp at e0 e1 e2 e3
          subst e0 e1 e2 e3
          have hb1 := bounds_u8 w1
          obtain ⟨k, rfl⟩ := Int.eq_ofNat_of_zero_le hb1.1
          have a0 := hat 0 (by decide)
          have a1 := hat 1 (by decide)
          have a2 := hat 2 (by decide)
          have a3 := hat 3 (by decide)
          rw [Go.Deep.add_add] at a0 a1 a2 a3
          exact ⟨⟨x0, k, x2, x3⟩, a0, a1, a2, a3⟩
    obtain ⟨acs, hal, hac⟩ := choose_list _ len each
    refine ⟨_, _, _, acs, rfl, ?_, hal, hmax⟩
    by_cases h0 : len = 0
    · exact .inl (List.length_eq_zero_iff.1 (hal.trans h0))
    · obtain ⟨ac, hc0, _⟩ := each 0 (by omega)
      obtain ⟨b, off, spot⟩ := x
      have hspot : spot = none := by simpa [Addr.add] using World.cell?_spot hc0
      subst hspot
      refine .inr ⟨b, off, rfl, by simpa [Addr.add] using World.block_lt_of_cell? w _ hc0, fun j y hy => ?_⟩
      have := hac j y hy
      simp only [Addr.add_lit, ← Nat.add_assoc] at this
      exact this
end

end Go.Proofs.Ytaodgilfoihkfaa
