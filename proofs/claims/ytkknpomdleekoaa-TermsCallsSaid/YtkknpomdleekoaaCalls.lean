/-
  TermsCalls: the walk.
-/
import Derived.Test.YtkknpomdleekoaaE
namespace Go.Proofs.Ytkknpomdleekoaa
open Go.RowKit
set_option linter.unusedVariables false
set_option linter.unusedSimpArgs false

set_option maxRecDepth 100000 in
set_option maxHeartbeats 6400000 in
theorem calls_walk (d s u c now : Int) (w : World) (_w1 : (Lit.int .i64 now).wf = true) :
    Calls Try.prog 3 #[T d s u c, .int .i64 now] w fun e w' => e = .returned (.bool true) ∧ Below w.heap.size w w' := by
  go_enter Try.func3, Try.ntmps3
  go_wp2_with fail
  refine (alive_yes _).mono ?_
  rintro e w1 ⟨rfl, B1⟩
  have H0 := Lib.hid (kept B1 (heap_alloc_new w _))
  have D1 := Lib.hid (below_end ((Below.refl _ w).alloc (Nat.le_refl _) _) B1)
  obtain ⟨⟨a0, a1, a2, a3⟩, _⟩ := four H0.out
  clear B1
  go_wp2_with fail
  refine (extend_any d s u c now _).mono ?_
  rintro e w2 ⟨rfl, B2⟩
  have H0' := Lib.hid (kept B2 H0.out)
  have D2 := Lib.hid (below_end D1.out B2)
  have l0 := (Array.getElem?_eq_some_iff.1 H0'.out).1
  clear B2 H0 D1 a0 a1 a2 a3
  obtain ⟨⟨a0, a1, a2, a3⟩, _⟩ := four H0'.out
  go_wp2_with fail
  refine (rextend_any d s u c now _).mono ?_
  rintro e w3 ⟨rfl, B3⟩
  have H0 := Lib.hid (kept B3 (heap_alloc1 H0'.out _))
  have H5 := Lib.hid (kept B3 (heap_alloc_new w2 _))
  have D3 := Lib.hid (below_end (D2.out.alloc D2.out.size _) B3)
  have l0' := (Array.getElem?_eq_some_iff.1 H0.out).1
  have l5' := (Array.getElem?_eq_some_iff.1 H5.out).1
  clear B3 H0' D2 a0 a1 a2 a3 l0
  go_wp2_with fail
  have H0a := heap_alloc1 H0.out (.cells #[.int .i64 (extD d s u c now), .int .i64 s, .int .i64 (extU d s u c now), .int .i64 c] 23)
  have H5a := heap_alloc1 H5.out (.cells #[.int .i64 (extD d s u c now), .int .i64 s, .int .i64 (extU d s u c now), .int .i64 c] 23)
  have H7a := heap_alloc_new w3 (.cells #[.int .i64 (extD d s u c now), .int .i64 s, .int .i64 (extU d s u c now), .int .i64 c] 23)
  have D3a := D3.out.alloc D3.out.size (.cells #[.int .i64 (extD d s u c now), .int .i64 s, .int .i64 (extU d s u c now), .int .i64 c] 23)
  generalize w3.alloc (.cells #[.int .i64 (extD d s u c now), .int .i64 s, .int .i64 (extU d s u c now), .int .i64 c] 23) = W at *
  generalize w2.heap.size = g5 at *
  generalize w3.heap.size = g7 at *
  obtain ⟨⟨a0, a1, a2, a3⟩, _⟩ := four H0a
  obtain ⟨⟨b0, b1, b2, b3⟩, _⟩ := four H5a
  obtain ⟨⟨c0, c1, c2, c3⟩, _⟩ := four H7a
  clear H0 H5 D3 l0' l5' H0a H5a H7a
  go_region_held3 (fun w' => w'.cell? ⟨w.heap.size, 0, none⟩ = some (.int .i64 d) ∧ w'.cell? ⟨w.heap.size, 1, none⟩ = some (.int .i64 s) ∧ w'.cell? ⟨w.heap.size, 2, none⟩ = some (.int .i64 u) ∧ w'.cell? ⟨w.heap.size, 3, none⟩ = some (.int .i64 c) ∧
      w'.cell? ⟨g5, 0, none⟩ = some (.int .i64 (extD d s u c now)) ∧ w'.cell? ⟨g5, 1, none⟩ = some (.int .i64 s) ∧ w'.cell? ⟨g5, 2, none⟩ = some (.int .i64 (extU d s u c now)) ∧ w'.cell? ⟨g5, 3, none⟩ = some (.int .i64 c) ∧
      w'.cell? ⟨g7, 0, none⟩ = some (.int .i64 (extD d s u c now)) ∧ w'.cell? ⟨g7, 1, none⟩ = some (.int .i64 s) ∧ w'.cell? ⟨g7, 2, none⟩ = some (.int .i64 (extU d s u c now)) ∧ w'.cell? ⟨g7, 3, none⟩ = some (.int .i64 c) ∧ Below w.heap.size w w')
    ((go_split_ands; refine ⟨?_, ?_, ?_, ?_, ?_, ?_, ?_, ?_, ?_, ?_, ?_, ?_, ?_⟩ <;> first | assumption | exact cells_keep (by assumption) (by assumption) | exact below_go (by assumption) (by assumption) | exact Below.drew (by assumption)))
    (first
      | (go_at_call 13; refine (right_any d s u c _).mono ?_; rintro e w' ⟨rfl, hb⟩)
      | (go_at_call 14; refine (rright_any d s u c _).mono ?_; rintro e w' ⟨rfl, hb⟩)
      | (go_at_call 15; refine (over_any d s u c now _).mono ?_; rintro e w' ⟨rfl, hb⟩)
      | (go_at_call 16; refine (rover_any d s u c now _).mono ?_; rintro e w' ⟨rfl, hb⟩)
      | (go_at_call 17; refine (last_any d s u c _).mono ?_; rintro e w' ⟨rfl, hb⟩)
      | (go_at_call 18; refine (rlast_any d s u c _).mono ?_; rintro e w' ⟨rfl, hb⟩))
  go_wp2
  go_ret
  go_split_ands
  exact ⟨rfl, by assumption⟩

end Go.Proofs.Ytkknpomdleekoaa
