/-
  A note that came in, opened.
-/
import Derived.Test.YtehgbpepaakanaaDoorRows
import Derived.Test.YtehgbpepaakanaaDoorEa
import Derived.Test.YtehgbpepaakanaaDoorEb
import Derived.WalkKit
import Derived.ProofKit
import Derived.OpenShut
import Derived.ShutString
import Derived.ChangeOld
import Derived.Lib.SmallJoins
namespace Go.Proofs.YtehgbpepaakanaaDoor
open Go.ChangeShapes Go.WideShapes Go.ChangeAt Go.RowKit Go.Joins
set_option linter.unusedVariables false
set_option linter.unusedSimpArgs false
set_option maxRecDepth 20000

theorem bounds_u8 {x : Int} (h : (Lit.int .u8 x).wf = true) : 0 ≤ x ∧ x ≤ 255 := by
  simp only [Lit.wf, decide_eq_true_eq, Bool.and_eq_true] at h
  have e1 : IntKind.u8.min = 0 := rfl
  have e2 : IntKind.u8.max = 255 := rfl
  rw [e1, e2] at h
  exact h
section
variable {H : Type} {enc : TypeId × Value → H} {w : World} {base : Nat} {held : Bool}
theorem open_note {r : Reach} {b0 : Nat} {v : Value} {d : DataW H} {p : List MemPlace} (hv : Value.okWide Tryd.prog w r b0 25 v) (h : DataW.Trod enc Tryd.prog w base (fun _ => true) held 25 v d p) :
    ∃ n : Nt, v = NV n ∧ Ok8 n := by
  obtain ⟨cs, rfl, hsz⟩ := okWide_struct Tryd.underlying25 hv
  have e25 : Tryd.prog.cellsOf 25 = 10 := by kernel_rfl
  obtain ⟨l⟩ := cs
  match l, hsz.trans e25 with
  | [c0, c1, c2, c3, c4, c5, c6, c7, c8, c9], _ =>
    obtain ⟨fuel, hf⟩ := h
    obtain ⟨xs, n, _, hx, _, hlen, hg⟩ := DataW.trod_struct Tryd.underlying25 hf
    have hlen6 : xs.length = 6 := hlen
    match xs, hlen6 with
    | [y0, y1, y2, y3, y4, y5], _ =>
      have g0 : DataW.trod enc Tryd.prog w base (fun _ => true) held n 3 [c0] = some y0 := hg 0 _ rfl
      have g1 : DataW.trod enc Tryd.prog w base (fun _ => true) held n 5 [c1] = some y1 := hg 1 _ rfl
      have g2 : DataW.trod enc Tryd.prog w base (fun _ => true) held n 3 [c2] = some y2 := hg 2 _ rfl
      have g3 : DataW.trod enc Tryd.prog w base (fun _ => true) held n 3 [c3] = some y3 := hg 3 _ rfl
      have g4 : DataW.trod enc Tryd.prog w base (fun _ => true) held n 3 [c4] = some y4 := hg 4 _ rfl
      have g5 : DataW.trod enc Tryd.prog w base (fun _ => true) held n 23 [c5, c6, c7, c8, c9] = some y5 := hg 5 _ rfl
      obtain ⟨zs, m, _, hz, _, hlenz, hgz⟩ := DataW.trod_struct Tryd.underlying23 g5
      have hlen5 : zs.length = 5 := hlenz
      match zs, hlen5 with
      | [z0, z1, z2, z3, z4], _ =>
        have q0 : DataW.trod enc Tryd.prog w base (fun _ => true) held m 3 [c5] = some z0 := hgz 0 _ rfl
        have q1 : DataW.trod enc Tryd.prog w base (fun _ => true) held m 5 [c6] = some z1 := hgz 1 _ rfl
        have q2 : DataW.trod enc Tryd.prog w base (fun _ => true) held m 5 [c7] = some z2 := hgz 2 _ rfl
        have q3 : DataW.trod enc Tryd.prog w base (fun _ => true) held m 3 [c8] = some z3 := hgz 3 _ rfl
        have q4 : DataW.trod enc Tryd.prog w base (fun _ => true) held m 9 [c9] = some z4 := hgz 4 _ rfl
        obtain ⟨k, e0, _, _⟩ := DataW.trod_int Tryd.underlying3 g0
        obtain ⟨mob, e1, _, w1⟩ := DataW.trod_int Tryd.underlying5 g1
        obtain ⟨tx, e2, _, _⟩ := DataW.trod_int Tryd.underlying3 g2
        obtain ⟨ep, e3, _, _⟩ := DataW.trod_int Tryd.underlying3 g3
        obtain ⟨vv, e4, _, _⟩ := DataW.trod_int Tryd.underlying3 g4
        obtain ⟨ki, e5, _, _⟩ := DataW.trod_int Tryd.underlying3 q0
        obtain ⟨fr, e6, _, w6⟩ := DataW.trod_int Tryd.underlying5 q1
        obtain ⟨tt, e7, _, w7⟩ := DataW.trod_int Tryd.underlying5 q2
        obtain ⟨me, e8, _, _⟩ := DataW.trod_int Tryd.underlying3 q3
        have b1 := bounds_u8 w1
        have b6 := bounds_u8 w6
        have b7 := bounds_u8 w7
        simp at e0 e1 e2 e3 e4 e5 e6 e7 e8
        subst e0 e1 e2 e3 e4 e5 e6 e7 e8
        obtain ⟨s, e9, _, _⟩ := DataW.trod_string Tryd.underlying9 q4
        simp at e9
        subst e9
        exact ⟨⟨_, _, _, _, _, _, _, _, _, s⟩, rfl, ⟨⟨b1.1, Int.lt_of_le_of_lt b1.2 (by decide)⟩, ⟨b6.1, Int.lt_of_le_of_lt b6.2 (by decide)⟩, ⟨b7.1, Int.lt_of_le_of_lt b7.2 (by decide)⟩⟩⟩
end
end Go.Proofs.YtehgbpepaakanaaDoor
