/-
  alive.
-/
import Derived.Test.YthehhnlkpcfofaaA
namespace Go.Proofs.Ythehhnlkpcfofaa
open Go.RowKit
set_option linter.unusedVariables false

set_option maxHeartbeats 800000 in
theorem alive_yes (w : World) :
    Calls Try.prog 9 #[] w fun e w' => e = .returned (.bool true) ∧ Below w.heap.size w w' := by
  go_enter Try.func9, Try.ntmps9
  go_wp2_with fail
  refine (new_ok 2 w (by decide) (by decide)).mono ?_
  rintro e w0 ⟨rfl, hR, hB⟩
  replace hR : RI w0 w.heap.size (.slice none 0 0) 2 [] := hR
  go_wp2_with fail
  refine (iPush _ _ _ _ 5 _ hR (by decide) (by decide) (by decide)).mono ?_
  rintro e w1 ⟨rfl, v1, hR1, hU1, ho1⟩
  go_wp2_with fail
  refine (iPush _ _ _ _ 6 _ hR1 (by decide) (by decide) (by decide)).mono ?_
  rintro e w2 ⟨rfl, v2, hR2, hU2, ho2⟩
  go_wp2_with fail
  refine (iPush_full _ _ _ _ 7 _ hR2 (by decide) (by decide)).mono ?_
  rintro e w3 ⟨rfl, hU3⟩
  have hR3 := hR2.upd hU3 (fun _ _ h => h)
  go_wp2_with fail
  refine (iPop _ _ _ 5 [6] _ hR3 (by decide)).mono ?_
  rintro e w4 ⟨rfl, v4, hR4, hU4, ho4⟩
  go_wp2_with fail
  refine (iAt_in _ _ _ _ 0 _ hR4 (by decide) (by decide) 6 rfl).mono ?_
  rintro e w5 ⟨rfl, rfl⟩
  go_wp2_with fail
  refine (len_is _ _ _ _ _ _ hR4 (by decide)).mono ?_
  rintro e w6 ⟨rfl, rfl⟩
  go_wp2
  go_ret
  have H0 : Hi w.heap.size w.heap.size (.slice none 0 0) := Hi.none (Nat.le_refl _)
  have B1 := hU1.onto hB hB.size H0
  have H1 := H0.new hB.size ho1
  have B2 := hU2.onto B1 B1.size H1
  have H2 := H1.new B1.size ho2
  have B3 := hU3.onto B2 B2.size (fun _ h => h.elim)
  exact ⟨rfl, hU4.onto B3 B3.size H2⟩

end Go.Proofs.Ythehhnlkpcfofaa
