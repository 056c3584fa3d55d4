/-
  Small lemmas that open arguments: arrays and structs by value, read as lists of numbers and bools.
-/
import Derived.Test.YtaodgilfoihkfaaT
import Derived.WalkKit
import Derived.ProofKit
import Derived.OpenShut
import Derived.ShutString
import Derived.ChangeOld
import Derived.Lib.SmallJoins
namespace Go.Proofs.Ytaodgilfoihkfaa
open Go.ChangeShapes Go.WideShapes Go.ChangeAt Go.RowKit Go.Joins
set_option linter.unusedVariables false
set_option linter.unusedSimpArgs false

section
variable {H : Type} {enc : TypeId × Value → H} {P : Program} {w : World} {base : Nat} {spare : Nat → Bool} {held : Bool}

theorem list_of {α : Type} (f : α → Value) (p : α → Prop) (cs : List Value) (h : ∀ i, i < cs.length → ∃ z, cs[i]? = some (f z) ∧ p z) : ∃ zs : List α, cs = zs.map f ∧ ∀ z ∈ zs, p z := by
  induction cs with
  | nil => exact ⟨[], rfl, by simp⟩
  | cons c r ih =>
    obtain ⟨z, hz, hp⟩ := h 0 (by simp)
    obtain ⟨zs, hzs, hps⟩ := ih (fun i hi => by simpa using h (i + 1) (by simpa using hi))
    refine ⟨z :: zs, ?_, ?_⟩
    · simp at hz
      rw [hz, hzs]
      rfl
    · intro x hx
      rcases List.mem_cons.1 hx with rfl | hx
      · exact hp
      · exact hps x hx

theorem okWide_array {r : Reach} {b0 n e : Nat} {t : TypeId} {v : Value} (ht : P.underlying t = some (.array n e)) (h : Value.okWide P w r b0 t v) : ∃ cs, v = .agg cs ∧ cs.size = P.cellsOf t := by
  simp only [Value.okWide, ht] at h
  obtain ⟨cs, h1, h2, _⟩ := h
  exact ⟨cs, h1, h2⟩

theorem arr_ints {fuel n : Nat} {t e : TypeId} {k : IntKind} {cs : List Value} {x : DataW H × List MemPlace} (ht : P.underlying t = some (.array n e)) (he : P.underlying e = some (.int k)) (hc : P.cellsOf e = 1) (hct : P.cellsOf t = n)
    (h : DataW.trod enc P w base spare held fuel t cs = some x) : ∃ zs : List Int, cs = zs.map (Value.int k) ∧ zs.length = n ∧ ∀ z ∈ zs, (Lit.int k z).wf = true := by
  obtain ⟨xs, m, _, _, hl, hxl, hi⟩ := DataW.trod_array ht h
  rw [hct] at hl
  obtain ⟨zs, hzs, hw⟩ := list_of (Value.int k) (fun z => (Lit.int k z).wf = true) cs (fun i hlt => by
    have hx := hi i (by omega)
    rw [hc, Nat.mul_one, List.drop_eq_getElem_cons hlt, List.getElem?_eq_getElem (by omega)] at hx
    obtain ⟨z, hz, _, hw⟩ := DataW.trod_int he hx
    refine ⟨z, ?_, hw⟩
    rw [List.take_succ_cons, List.take_zero] at hz
    injection hz with hz
    rw [List.getElem?_eq_getElem hlt, hz])
  exact ⟨zs, hzs, by rw [← hl, hzs, List.length_map], hw⟩

theorem arr_bools {fuel n : Nat} {t e : TypeId} {cs : List Value} {x : DataW H × List MemPlace} (ht : P.underlying t = some (.array n e)) (he : P.underlying e = some .bool) (hc : P.cellsOf e = 1) (hct : P.cellsOf t = n)
    (h : DataW.trod enc P w base spare held fuel t cs = some x) : ∃ zs : List Bool, cs = zs.map Value.bool ∧ zs.length = n := by
  obtain ⟨xs, m, _, _, hl, hxl, hi⟩ := DataW.trod_array ht h
  rw [hct] at hl
  obtain ⟨zs, hzs, _⟩ := list_of Value.bool (fun _ => True) cs (fun i hlt => by
    have hx := hi i (by omega)
    rw [hc, Nat.mul_one, List.drop_eq_getElem_cons hlt, List.getElem?_eq_getElem (by omega)] at hx
    obtain ⟨z, hz, _⟩ := DataW.trod_bool he hx
    refine ⟨z, ?_, trivial⟩
    rw [List.take_succ_cons, List.take_zero] at hz
    injection hz with hz
    rw [List.getElem?_eq_getElem hlt, hz])
  exact ⟨zs, hzs, by rw [← hl, hzs, List.length_map]⟩

/-- An array of integers by value. -/
theorem open_arr {r : Reach} {b0 n : Nat} {t e : TypeId} {k : IntKind} {v : Value} {d : DataW H} {p : List MemPlace} (ht : P.underlying t = some (.array n e)) (he : P.underlying e = some (.int k)) (hc : P.cellsOf e = 1) (hct : P.cellsOf t = n)
    (hv : Value.okWide P w r b0 t v) (h : DataW.Trod enc P w base spare held t v d p) : ∃ zs : List Int, v = .agg (zs.map (Value.int k)).toArray ∧ zs.length = n ∧ ∀ z ∈ zs, (Lit.int k z).wf = true := by
  obtain ⟨cs, rfl, hs⟩ := okWide_array ht hv
  obtain ⟨fuel, hf⟩ := h
  obtain ⟨zs, hz, hl, hw⟩ := arr_ints ht he hc hct hf
  exact ⟨zs, by rw [← hz]; rfl, hl, hw⟩
theorem open_arrb {r : Reach} {b0 n : Nat} {t e : TypeId} {v : Value} {d : DataW H} {p : List MemPlace} (ht : P.underlying t = some (.array n e)) (he : P.underlying e = some .bool) (hc : P.cellsOf e = 1) (hct : P.cellsOf t = n)
    (hv : Value.okWide P w r b0 t v) (h : DataW.Trod enc P w base spare held t v d p) : ∃ zs : List Bool, v = .agg (zs.map Value.bool).toArray ∧ zs.length = n := by
  obtain ⟨cs, rfl, hs⟩ := okWide_array ht hv
  obtain ⟨fuel, hf⟩ := h
  obtain ⟨zs, hz, hl⟩ := arr_bools ht he hc hct hf
  exact ⟨zs, by rw [← hz]; rfl, hl⟩
end

section
variable {H : Type} {enc : TypeId × Value → H} {w : World} {base : Nat} {spare : Nat → Bool} {held : Bool}
/-- A tally by value. -/
theorem open_tally {r : Reach} {b0 : Nat} {v : Value} {d : DataW H} {p : List MemPlace} (hv : Value.okWide Try.prog w r b0 25 v) (h : DataW.Trod enc Try.prog w base spare held 25 v d p) : ∃ t : Ta, v = TV t ∧ t.Len := by
  obtain ⟨cs, rfl, hs⟩ := okWide_struct Try.underlying25 hv
  obtain ⟨fuel, hf⟩ := h
  obtain ⟨xs, n, _, _, hl, hxl, hi⟩ := DataW.trod_struct Try.underlying25 hf
  have hxl3 : xs.length = 3 := hxl
  have hl24 : (Value.agg cs).cells.toList.length = 24 := by rw [hl]; kernel_rfl
  have h0 := hi 0 _ rfl
  have h1 := hi 1 _ rfl
  have h2 := hi 2 _ rfl
  rw [List.getElem?_eq_getElem (by omega)] at h0 h1 h2
  obtain ⟨W, hW, lW⟩ := arr_bools (n := 8) Try.underlying22 Try.underlying4 (by kernel_rfl) (by kernel_rfl) h0
  obtain ⟨V, hV, lV, _⟩ := arr_ints (n := 8) Try.underlying23 Try.underlying3 (by kernel_rfl) (by kernel_rfl) h1
  obtain ⟨E, hE, lE, _⟩ := arr_ints (n := 8) Try.underlying23 Try.underlying3 (by kernel_rfl) (by kernel_rfl) h2
  refine ⟨⟨W, V, E⟩, ?_, ⟨lW, lV, lE⟩⟩
  have e22 : Try.prog.cellsOf 22 = 8 := by kernel_rfl
  have e23 : Try.prog.cellsOf 23 = 8 := by kernel_rfl
  replace hW : (cs.toList.drop 0).take (Try.prog.cellsOf 22) = W.map Value.bool := hW
  replace hV : (cs.toList.drop 8).take (Try.prog.cellsOf 23) = V.map (Value.int .i64) := hV
  replace hE : (cs.toList.drop 16).take (Try.prog.cellsOf 23) = E.map (Value.int .i64) := hE
  rw [e22, List.drop_zero] at hW
  rw [e23] at hV hE
  replace hl24 : cs.toList.length = 24 := hl24
  have e3 : cs.toList = cs.toList.take 8 ++ ((cs.toList.drop 8).take 8 ++ (cs.toList.drop 16).take 8) := by
    rw [List.take_of_length_le (l := cs.toList.drop 16) (by rw [List.length_drop]; omega)]
    have : (cs.toList.drop 8).take 8 ++ cs.toList.drop 16 = cs.toList.drop 8 := by
      have := List.take_append_drop 8 (cs.toList.drop 8)
      rw [List.drop_drop] at this
      exact this
    rw [this, List.take_append_drop]
  show Value.agg cs = .agg (W.map Value.bool ++ (V.map (Value.int .i64) ++ E.map (Value.int .i64))).toArray
  rw [← hW, ← hV, ← hE, ← e3]
/-- A call by value. -/
theorem open_act {r : Reach} {b0 : Nat} {v : Value} {d : DataW H} {p : List MemPlace} (hv : Value.okWide Try.prog w r b0 27 v) (h : DataW.Trod enc Try.prog w base spare held 27 v d p) : ∃ (b : Bool) (x y z : Int), v = .agg #[.bool b, .int .u8 x, .int .i64 y, .int .i64 z] ∧ (Lit.int .u8 x).wf = true := by
  obtain ⟨c0, c1, c2, c3, y0, y1, y2, y3, m, h1, _, _, g0, g1, g2, g3⟩ := open_agg4 Try.underlying27 (by kernel_rfl) (by kernel_rfl) hv h
  obtain ⟨x0, e0, _⟩ := DataW.trod_bool Try.underlying4 g0
  obtain ⟨x1, e1, _, w1⟩ := DataW.trod_int Try.underlying5 g1
  obtain ⟨x2, e2, _, _⟩ := DataW.trod_int Try.underlying3 g2
  obtain ⟨x3, e3, _, _⟩ := DataW.trod_int Try.underlying3 g3
  simp at e0 e1 e2 e3
  subst e0 e1 e2 e3
  exact ⟨_, _, _, _, h1, w1⟩
end

theorem two_of {α : Type} {zs : List α} (h : zs.length = 2) : ∃ a b, zs = [a, b] := by
  match zs, h with
  | [a, b], _ => exact ⟨a, b, rfl⟩

end Go.Proofs.Ytaodgilfoihkfaa
