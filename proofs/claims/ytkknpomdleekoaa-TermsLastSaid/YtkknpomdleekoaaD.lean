/-
  alive.
-/
import Derived.Test.YtkknpomdleekoaaC
namespace Go.Proofs.Ytkknpomdleekoaa
open Go.RowKit
set_option linter.unusedVariables false
set_option linter.unusedSimpArgs false

instance okDec (d s u c : Int) : Decidable (Ok d s u c) := by unfold Ok; infer_instance

/-- From one call to the next: what lay is there still. -/
theorem below_step {B : Nat} {w w1 w2 : World} (h : Below B w w1) (hB : B ≤ w1.heap.size) (k : Below w1.heap.size w1 w2) : Below B w w2 := h.trans (k.mono hB)

theorem heap_alloc1 {w : World} {g : Nat} {o : Obj} (h : w.heap[g]? = some o) (a : Obj) : (w.alloc a).heap[g]? = some o := (Go.RowKit.Below.heap_alloc w a g (Array.getElem?_eq_some_iff.1 h).1).trans h

set_option maxHeartbeats 3200000 in
theorem alive_yes (w : World) :
    Calls Try.prog 10 #[] w fun e w' => e = .returned (.bool true) ∧ Below w.heap.size w w' := by
  go_enter Try.func10, Try.ntmps10
  go_wp2_with fail
  refine (new_ok 10 5 2 _ (by decide)).mono ?_
  rintro e w1 ⟨rfl, B1⟩
  go_wp2_with fail
  refine (extend_ok 15 5 0 2 14 _ (by decide) (by decide) (by decide)).mono ?_
  rintro e w2 ⟨rfl, B2⟩
  have H1 := Lib.hid (kept B2 (heap_alloc_new w1 _))
  have D2 := Lib.hid (below_step (B1.alloc B1.size _) (by simp; exact Nat.le_succ_of_le B1.size) B2)
  obtain ⟨⟨k0, k1, k2, k3⟩, _⟩ := four H1.out
  have l1 := (Array.getElem?_eq_some_iff.1 H1.out).1
  clear B2
  go_wp2_with fail
  refine (extend_late 15 5 0 2 15 _ (by decide) (by decide)).mono ?_
  rintro e w3 ⟨rfl, B3⟩
  have H2 := Lib.hid (kept B3 (heap_alloc_new w2 _))
  have H1' := Lib.hid (kept B3 (Go.RowKit.Below.heap_alloc w2 _ _ ((Array.getElem?_eq_some_iff.1 H1.out).1) |>.trans H1.out))
  have D3 := Lib.hid (below_step (D2.out.alloc D2.out.size _) (by simp; exact Nat.le_succ_of_le D2.out.size) B3)
  clear B3 k0 k1 k2 k3 D2 H1
  go_wp2_with fail
  refine (agree_is _ 2 2 [3, 900] 5 100 _ (.inr ⟨w3.heap.size + 1, 0, rfl, by simp, ?_⟩) rfl (by decide) (by decide) (by decide) (by decide) (by decide) (by decide)).mono ?_
  · intro j x hj
    match j, hj with
    | 0, hj => simp at hj; subst hj; simp
    | 1, hj => simp at hj; subst hj; simp
  rintro e w4 ⟨rfl, rfl⟩
  obtain ⟨⟨k0, k1, k2, k3⟩, _⟩ := four H1'.out
  obtain ⟨⟨q0, q1, q2, q3⟩, _⟩ := four H2.out
  have l1' := (Array.getElem?_eq_some_iff.1 H1'.out).1
  have l2' := (Array.getElem?_eq_some_iff.1 H2.out).1
  have hAg : Ag [3, 900] 5 100 = 100 := by decide
  go_wp2_with fail
  refine (last_is 15 5 0 2 _ (by decide)).mono ?_
  rintro e w4 ⟨rfl, B4⟩
  have G1 := Lib.hid (kept B4 (heap_alloc1 (heap_alloc1 H1'.out _) _))
  have G2 := Lib.hid (kept B4 (heap_alloc1 (heap_alloc1 H2.out _) _))
  have D4 := Lib.hid (below_step ((D3.out.alloc D3.out.size _).alloc (Nat.le_trans D3.out.size (by simp)) _) (Nat.le_trans D3.out.size (by simp; omega)) B4)
  clear k0 k1 k2 k3 q0 q1 q2 q3 l1' l2' B4
  obtain ⟨⟨k0, k1, k2, k3⟩, _⟩ := four G1.out
  obtain ⟨⟨q0, q1, q2, q3⟩, _⟩ := four G2.out
  go_wp2_with fail
  refine (over_is 15 5 0 2 15 _ (by decide)).mono ?_
  rintro e w5 ⟨rfl, B5⟩
  have G1' := Lib.hid (kept B5 G1.out)
  have G2' := Lib.hid (kept B5 G2.out)
  have D5 := Lib.hid (below_step D4.out D4.out.size B5)
  clear k0 k1 k2 k3 q0 q1 q2 q3 B5
  obtain ⟨⟨k0, k1, k2, k3⟩, _⟩ := four G1'.out
  obtain ⟨⟨q0, q1, q2, q3⟩, _⟩ := four G2'.out
  go_wp2_with fail
  refine (over_is 15 5 0 2 14 _ (by decide)).mono ?_
  rintro e w6 ⟨rfl, B6⟩
  have G2'' := Lib.hid (kept B6 G2'.out)
  have D6 := Lib.hid (below_step D5.out D5.out.size B6)
  clear k0 k1 k2 k3 q0 q1 q2 q3 B6
  obtain ⟨⟨q0, q1, q2, q3⟩, _⟩ := four G2''.out
  go_wp2_with fail
  refine (right_yes 20 5 1 2 _ (by decide)).mono ?_
  rintro e w7 ⟨rfl, B7⟩
  have D7 := Lib.hid (below_step D6.out D6.out.size B7)
  clear B7
  go_wp2
  go_ret
  exact ⟨rfl, D7.out⟩

end Go.Proofs.Ytkknpomdleekoaa
