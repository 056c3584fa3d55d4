/-
  Small lemmas that open arguments: arrays and structs by value, read as lists of numbers and bools.
-/
import Derived.Test.YtehgbpepaakanaaK
import Derived.WalkKit
import Derived.ProofKit
import Derived.OpenShut
import Derived.ShutString
import Derived.ChangeOld
import Derived.Lib.SmallJoins
namespace Go.Proofs.Ytehgbpepaakanaa
open Go.ChangeShapes Go.WideShapes Go.ChangeAt Go.RowKit Go.Joins
set_option linter.unusedVariables false
set_option linter.unusedSimpArgs false

section
variable {H : Type} {enc : TypeId × Value → H} {P : Program} {w : World} {base : Nat} {spare : Nat → Bool} {held : Bool}

theorem list_of {α : Type} (f : α → Value) (p : α → Prop) (cs : List Value) (h : ∀ i, i < cs.length → ∃ z, cs[i]? = some (f z) ∧ p z) : ∃ zs : List α, cs = zs.map f ∧ ∀ z ∈ zs, p z := by
  induction cs with
  | nil => exact ⟨[], rfl, by simp⟩
  | cons c r ih =>
    obtain ⟨z, hz, hp⟩ := h 0 (by simp)
    obtain ⟨zs, hzs, hps⟩ := ih (fun i hi => by simpa using h (i + 1) (by simpa using hi))
    refine ⟨z :: zs, ?_, ?_⟩
    · simp at hz
      rw [hz, hzs]
      rfl
    · intro x hx
      rcases List.mem_cons.1 hx with rfl | hx
      · exact hp
      · exact hps x hx

theorem okWide_array {r : Reach} {b0 n e : Nat} {t : TypeId} {v : Value} (ht : P.underlying t = some (.array n e)) (h : Value.okWide P w r b0 t v) : ∃ cs, v = .agg cs ∧ cs.size = P.cellsOf t := by
  simp only [Value.okWide, ht] at h
  obtain ⟨cs, h1, h2, _⟩ := h
  exact ⟨cs, h1, h2⟩

theorem arr_ints {fuel n : Nat} {t e : TypeId} {k : IntKind} {cs : List Value} {x : DataW H × List MemPlace} (ht : P.underlying t = some (.array n e)) (he : P.underlying e = some (.int k)) (hc : P.cellsOf e = 1) (hct : P.cellsOf t = n)
    (h : DataW.trod enc P w base spare held fuel t cs = some x) : ∃ zs : List Int, cs = zs.map (Value.int k) ∧ zs.length = n ∧ ∀ z ∈ zs, (Lit.int k z).wf = true := by
  obtain ⟨xs, m, _, _, hl, hxl, hi⟩ := DataW.trod_array ht h
  rw [hct] at hl
  obtain ⟨zs, hzs, hw⟩ := list_of (Value.int k) (fun z => (Lit.int k z).wf = true) cs (fun i hlt => by
    have hx := hi i (by omega)
    rw [hc, Nat.mul_one, List.drop_eq_getElem_cons hlt, List.getElem?_eq_getElem (by omega)] at hx
    obtain ⟨z, hz, _, hw⟩ := DataW.trod_int he hx
    refine ⟨z, ?_, hw⟩
    rw [List.take_succ_cons, List.take_zero] at hz
    injection hz with hz
    rw [List.getElem?_eq_getElem hlt, hz])
  exact ⟨zs, hzs, by rw [← hl, hzs, List.length_map], hw⟩

theorem arr_bools {fuel n : Nat} {t e : TypeId} {cs : List Value} {x : DataW H × List MemPlace} (ht : P.underlying t = some (.array n e)) (he : P.underlying e = some .bool) (hc : P.cellsOf e = 1) (hct : P.cellsOf t = n)
    (h : DataW.trod enc P w base spare held fuel t cs = some x) : ∃ zs : List Bool, cs = zs.map Value.bool ∧ zs.length = n := by
  obtain ⟨xs, m, _, _, hl, hxl, hi⟩ := DataW.trod_array ht h
  rw [hct] at hl
  obtain ⟨zs, hzs, _⟩ := list_of Value.bool (fun _ => True) cs (fun i hlt => by
    have hx := hi i (by omega)
    rw [hc, Nat.mul_one, List.drop_eq_getElem_cons hlt, List.getElem?_eq_getElem (by omega)] at hx
    obtain ⟨z, hz, _⟩ := DataW.trod_bool he hx
    refine ⟨z, ?_, trivial⟩
    rw [List.take_succ_cons, List.take_zero] at hz
    injection hz with hz
    rw [List.getElem?_eq_getElem hlt, hz])
  exact ⟨zs, hzs, by rw [← hl, hzs, List.length_map]⟩

/-- An array of integers by value. -/
theorem open_arr {r : Reach} {b0 n : Nat} {t e : TypeId} {k : IntKind} {v : Value} {d : DataW H} {p : List MemPlace} (ht : P.underlying t = some (.array n e)) (he : P.underlying e = some (.int k)) (hc : P.cellsOf e = 1) (hct : P.cellsOf t = n)
    (hv : Value.okWide P w r b0 t v) (h : DataW.Trod enc P w base spare held t v d p) : ∃ zs : List Int, v = .agg (zs.map (Value.int k)).toArray ∧ zs.length = n ∧ ∀ z ∈ zs, (Lit.int k z).wf = true := by
  obtain ⟨cs, rfl, hs⟩ := okWide_array ht hv
  obtain ⟨fuel, hf⟩ := h
  obtain ⟨zs, hz, hl, hw⟩ := arr_ints ht he hc hct hf
  exact ⟨zs, by rw [← hz]; rfl, hl, hw⟩
theorem open_arrb {r : Reach} {b0 n : Nat} {t e : TypeId} {v : Value} {d : DataW H} {p : List MemPlace} (ht : P.underlying t = some (.array n e)) (he : P.underlying e = some .bool) (hc : P.cellsOf e = 1) (hct : P.cellsOf t = n)
    (hv : Value.okWide P w r b0 t v) (h : DataW.Trod enc P w base spare held t v d p) : ∃ zs : List Bool, v = .agg (zs.map Value.bool).toArray ∧ zs.length = n := by
  obtain ⟨cs, rfl, hs⟩ := okWide_array ht hv
  obtain ⟨fuel, hf⟩ := h
  obtain ⟨zs, hz, hl⟩ := arr_bools ht he hc hct hf
  exact ⟨zs, by rw [← hz]; rfl, hl⟩
end

theorem two_of {α : Type} {zs : List α} (h : zs.length = 2) : ∃ a b, zs = [a, b] := by
  match zs, h with
  | [a, b], _ => exact ⟨a, b, rfl⟩

end Go.Proofs.Ytehgbpepaakanaa
