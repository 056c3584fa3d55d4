/-
  An argument that is a slice of slices of bytes, opened.
-/
import Derived.Test.YtehgbpepaakanaaRows
import Derived.Test.YtehgbpepaakanaaO
import Derived.Test.YtehgbpepaakanaaL
import Derived.Deep.Slices
namespace Go.Proofs.Ytehgbpepaakanaa
open Go.ChangeShapes Go.WideShapes Go.ChangeAt Go.RowKit Go.Joins
set_option linter.unusedVariables false
set_option linter.unusedSimpArgs false

theorem choose_list {α : Type} (P : Nat → α → Prop) : ∀ n, (∀ i, i < n → ∃ x, P i x) → ∃ l : List α, l.length = n ∧ ∀ (j : Nat) (x : α), l[j]? = some x → P j x
  | 0, _ => ⟨[], rfl, by simp⟩
  | n + 1, h => by
    obtain ⟨l, hl, hp⟩ := choose_list P n (fun i hi => h i (by omega))
    obtain ⟨x, hx⟩ := h n (by omega)
    refine ⟨l ++ [x], by simp [hl], fun j y hy => ?_⟩
    by_cases hj : j < n
    · rw [List.getElem?_append_left (by omega)] at hy
      exact hp j y hy
    · rw [List.getElem?_append_right (by omega)] at hy
      have : j - l.length = 0 := by
        have := (List.getElem?_eq_some_iff.1 hy).1
        simp at this
        omega
      have hjn : j = n := by omega
      subst hjn
      rw [this] at hy
      simp at hy
      subst hy
      exact hx

section
variable {H : Type} {enc : TypeId × Value → H} {w : World} {base : Nat} {held : Bool}
/-- A slice of bytes, read. -/
theorem open_sb {fuel : Nat} {c : Value} {x : DataW H × List MemPlace} (h : DataW.trod enc Try.prog w base (fun _ => true) held fuel 26 [c] = some x) : ∃ y : SB, c = .slice y.a y.m y.d ∧ BR w y.a y.m y.d y.bs ∧ y.In := by
  rcases open_ints Try.underlying26 Try.underlying5 (by kernel_rfl) h with ⟨hcs, _⟩ | ⟨a, l, cp, zs, hcs, _, hl, hm, hz, _, hcell, hwz⟩
  · simp at hcs
    subst hcs
    exact ⟨⟨none, 0, 0, []⟩, rfl, .inl ⟨rfl, rfl, rfl⟩, fun y hy => (by simp at hy)⟩
  · simp at hcs hz
    subst hcs
    refine ⟨⟨some a, l, cp, zs.take l⟩, rfl, ?_, fun y hy => bounds_u8 (hwz y (List.mem_of_mem_take hy))⟩
    by_cases h0 : cp = 0
    · subst h0
      obtain rfl : l = 0 := by omega
      exact .inl ⟨rfl, rfl, by simp⟩
    · have c0 := hcell 0 (by omega)
      obtain ⟨b, off, spot⟩ := a
      have hspot : spot = none := by simpa [Addr.add] using World.cell?_spot c0
      subst hspot
      refine .inr ⟨b, off, rfl, by simpa [Addr.add] using World.block_lt_of_cell? w _ c0, by simp; omega, hl, (show (cp : Int) ≤ 9223372036854775807 by simp only [maxLen] at hm; omega), fun j y hy => ?_⟩
      have hjl : j < zs.length := by
        have := (List.getElem?_eq_some_iff.1 hy).1
        simp at this
        omega
      have := hcell j hjl
      simp only [Addr.add_lit] at this
      rw [this, List.getD_eq_getElem?_getD]
      rw [List.getElem?_take] at hy
      split at hy
      · rw [hy]; rfl
      · cases hy

theorem open_bs2 {r : Reach} {b0 : Nat} {v : Value} {d : DataW H} {p : List MemPlace} (hv : Value.okWide Try.prog w r b0 22 v) (h : DataW.Trod enc Try.prog w base (fun _ => true) held 22 v d p) :
    ∃ (a : Option Addr) (len cap : Nat) (xs : List SB), v = .slice a len cap ∧ Bs2 w a xs ∧ xs.length = len ∧ (len : Int) ≤ 9223372036854775807 := by
  obtain ⟨a, len, cap, rfl⟩ := okWide_slice Try.underlying22 hv
  obtain ⟨fuel, hf⟩ := h
  rcases Go.Deep.open_slice1 Try.underlying22 (by kernel_rfl) hf with ⟨hcs, _⟩ | ⟨x, l, c, m, n, V, D, Pl, hcs, hb, hlc, hm, hmm, hx, hi⟩
  · simp [Value.cells] at hcs
    obtain ⟨rfl, rfl, rfl⟩ := hcs
    exact ⟨_, _, _, [], rfl, .inl rfl, rfl, by decide⟩
  · simp [Value.cells] at hcs
    obtain ⟨rfl, rfl, rfl⟩ := hcs
    have hml : len ≤ m := by
      rw [hmm]
      split <;> omega
    have hmax : (len : Int) ≤ 9223372036854775807 := by simp only [maxLen] at hm; omega
    obtain ⟨xs, hxl, hxs⟩ := choose_list (fun i (y : SB) => w.cell? (x.add i) = some (.slice y.a y.m y.d) ∧ BR w y.a y.m y.d y.bs ∧ y.In) len (fun i hil => by
      obtain ⟨h1, h2⟩ := hi i (by omega)
      obtain ⟨y, e, h3, h4⟩ := open_sb h2
      exact ⟨y, by rw [h1, e], h3, h4⟩)
    refine ⟨_, _, _, xs, rfl, ?_, hxl, hmax⟩
    by_cases h0 : len = 0
    · exact .inl (List.length_eq_zero_iff.1 (hxl.trans h0))
    · obtain ⟨y, hy⟩ : ∃ y, xs[0]? = some y := ⟨_, List.getElem?_eq_getElem (by omega)⟩
      have hc0 := (hxs 0 y hy).1
      obtain ⟨b, off, spot⟩ := x
      have hspot : spot = none := by simpa [Addr.add] using World.cell?_spot hc0
      subst hspot
      refine .inr ⟨b, off, rfl, by simpa [Addr.add] using World.block_lt_of_cell? w _ hc0, fun j y hy => ?_⟩
      have := hxs j y hy
      simp only [Addr.add_lit] at this
      exact this
end

end Go.Proofs.Ytehgbpepaakanaa
