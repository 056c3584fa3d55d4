/-
  An argument that is a slice of acts, opened.
-/
import Derived.Test.YtehgbpepaakanaaO2
import Derived.Test.YtehgbpepaakanaaA6
namespace Go.Proofs.Ytehgbpepaakanaa
open Go.ChangeShapes Go.WideShapes Go.ChangeAt Go.RowKit Go.Joins
set_option linter.unusedVariables false
set_option linter.unusedSimpArgs false

section
variable {H : Type} {enc : TypeId × Value → H} {w : World} {base : Nat} {held : Bool}
theorem open_acts {r : Reach} {b0 : Nat} {v : Value} {d : DataW H} {p : List MemPlace} (hv : Value.okWide Try.prog w r b0 35 v) (h : DataW.Trod enc Try.prog w base (fun _ => true) held 35 v d p) :
    ∃ (a : Option Addr) (len cap : Nat) (acs : List Ac), v = .slice a len cap ∧ Acts w a acs ∧ acs.length = len ∧ (len : Int) ≤ 9223372036854775807 := by
  obtain ⟨a, len, cap, rfl⟩ := okWide_slice Try.underlying35 hv
  obtain ⟨fuel, hf⟩ := h
  rcases Go.Deep.open_slice Try.underlying35 hf with ⟨hcs, _⟩ | ⟨x, l, c, m, n, D, Pl, hcs, hb, hlc, hm, hmm, hx, hi⟩
  · simp [Value.cells] at hcs
    obtain ⟨rfl, rfl, rfl⟩ := hcs
    exact ⟨_, _, _, [], rfl, .inl rfl, rfl, by decide⟩
  · simp [Value.cells] at hcs
    obtain ⟨rfl, rfl, rfl⟩ := hcs
    have e42 : Try.prog.cellsOf 42 = 7 := by kernel_rfl
    rw [e42] at hi
    have hml : len ≤ m := by
      rw [hmm]
      split <;> omega
    have hmax : (len : Int) ≤ 9223372036854775807 := by simp only [maxLen] at hm; omega
    have each : ∀ i, i < len → ∃ ac : Ac, (w.cell? (x.add (i * 7)) = some (.int .u8 ac.k) ∧ w.cell? (x.add (i * 7 + 1)) = some (.int .u8 ac.f) ∧ w.cell? (x.add (i * 7 + 2)) = some (.int .u8 (ac.t : Int)) ∧ w.cell? (x.add (i * 7 + 3)) = some (.slice ac.a ac.m ac.d) ∧ w.cell? (x.add (i * 7 + 4)) = some (.int .i64 ac.i) ∧ w.cell? (x.add (i * 7 + 5)) = some (.int .u16 (ac.pl : Int)) ∧ w.cell? (x.add (i * 7 + 6)) = some (.int .u8 ac.z)) ∧ BR w ac.a ac.m ac.d ac.bs ∧ ac.t ≤ 255 ∧ ac.pl < 65536 := by
      intro i hil
      obtain ⟨cs', hc, ht'⟩ := hi i (by omega)
      obtain ⟨_, hcl, hat⟩ := World.cells?_some hc
      obtain ⟨xs, n', _, _, _, hxl, hg⟩ := DataW.trod_struct Try.underlying42 ht'
      have hxl7 : xs.length = 7 := hxl
      match cs', hcl with
      | [c0, c1, c2, c3, c4, c5, c6], _ =>
        match xs, hxl7 with
        | [y0, y1, y2, y3, y4, y5, y6], _ =>
          have g0 : DataW.trod enc Try.prog w base (fun _ => true) held n' 5 [c0] = some y0 := hg 0 _ rfl
          have g1 : DataW.trod enc Try.prog w base (fun _ => true) held n' 5 [c1] = some y1 := hg 1 _ rfl
          have g2 : DataW.trod enc Try.prog w base (fun _ => true) held n' 5 [c2] = some y2 := hg 2 _ rfl
          have g3 : DataW.trod enc Try.prog w base (fun _ => true) held n' 26 [c3] = some y3 := hg 3 _ rfl
          have g4 : DataW.trod enc Try.prog w base (fun _ => true) held n' 3 [c4] = some y4 := hg 4 _ rfl
          have g5 : DataW.trod enc Try.prog w base (fun _ => true) held n' 40 [c5] = some y5 := hg 5 _ rfl
          have g6 : DataW.trod enc Try.prog w base (fun _ => true) held n' 5 [c6] = some y6 := hg 6 _ rfl
          obtain ⟨x0, e0, _, _⟩ := DataW.trod_int Try.underlying5 g0
          obtain ⟨x1, e1, _, _⟩ := DataW.trod_int Try.underlying5 g1
          obtain ⟨x2, e2, _, w2⟩ := DataW.trod_int Try.underlying5 g2
          obtain ⟨s3, e3, hbr, _⟩ := open_sb g3
          obtain ⟨x4, e4, _, _⟩ := DataW.trod_int Try.underlying3 g4
          obtain ⟨x5, e5, _, w5⟩ := DataW.trod_int Try.underlying40 g5
          obtain ⟨x6, e6, _, _⟩ := DataW.trod_int Try.underlying5 g6
          simp at e0 e1 e2 e4 e5 e6
          subst e0 e1 e2 e3 e4 e5 e6
          have hb2 := bounds_u8 w2
          obtain ⟨t, rfl⟩ := Int.eq_ofNat_of_zero_le hb2.1
          have hb5 := bounds_u16 w5
          obtain ⟨pl, rfl⟩ := Int.eq_ofNat_of_zero_le hb5.1
          have a0 := hat 0 (by decide)
          have a1 := hat 1 (by decide)
          have a2 := hat 2 (by decide)
          have a3 := hat 3 (by decide)
          have a4 := hat 4 (by decide)
          have a5 := hat 5 (by decide)
          have a6 := hat 6 (by decide)
          rw [Go.Deep.add_add] at a0 a1 a2 a3 a4 a5 a6
          exact ⟨⟨x0, x1, t, s3.a, s3.m, s3.d, s3.bs, x4, pl, x6⟩, ⟨a0, a1, a2, a3, a4, a5, a6⟩, hbr, by show t ≤ 255; omega, by show pl < 65536; omega⟩
    obtain ⟨acs, hal, hac⟩ := choose_list _ len each
    refine ⟨_, _, _, acs, rfl, ?_, hal, hmax⟩
    by_cases h0 : len = 0
    · exact .inl (List.length_eq_zero_iff.1 (hal.trans h0))
    · obtain ⟨ac, ⟨hc0, _⟩, _⟩ := each 0 (by omega)
      obtain ⟨b, off, spot⟩ := x
      have hspot : spot = none := by simpa [Addr.add] using World.cell?_spot hc0
      subst hspot
      refine .inr ⟨b, off, rfl, by simpa [Addr.add] using World.block_lt_of_cell? w _ hc0, fun j y hy => ?_⟩
      have := hac j y hy
      simp only [Addr.add_lit, ← Nat.add_assoc] at this
      exact this
end

end Go.Proofs.Ytehgbpepaakanaa
