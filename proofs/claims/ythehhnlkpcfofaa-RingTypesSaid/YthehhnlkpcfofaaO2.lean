/-
  An argument that is a slice of calls, opened.
-/
import Derived.Test.YthehhnlkpcfofaaRows
import Derived.Test.YthehhnlkpcfofaaO
import Derived.Deep.Slices
namespace Go.Proofs.Ythehhnlkpcfofaa
open Go.ChangeShapes Go.WideShapes Go.ChangeAt Go.RowKit Go.Joins
set_option linter.unusedVariables false
set_option linter.unusedSimpArgs false

/-- A call. -/
structure Ac where
  kind : Int
  x : Int
  i : Int
def Ac.Ok (a : Ac) : Prop := (0 ≤ a.kind ∧ a.kind ≤ 255) ∧ (-9223372036854775808 ≤ a.x ∧ a.x ≤ 9223372036854775807) ∧ -9223372036854775808 ≤ a.i ∧ a.i ≤ 9223372036854775807

def Acts (B : Nat) (w : World) (a : Option Addr) (acs : List Ac) : Prop :=
  acs = [] ∨ ∃ b off, a = some ⟨b, off, none⟩ ∧ b < B ∧ ∀ (j : Nat) (x : Ac), acs[j]? = some x → w.cell? ⟨b, off + j * 3, none⟩ = some (.int .u8 x.kind) ∧ w.cell? ⟨b, off + j * 3 + 1, none⟩ = some (.int .i64 x.x) ∧ w.cell? ⟨b, off + j * 3 + 2, none⟩ = some (.int .i64 x.i)
theorem Acts.below {B : Nat} {w w' : World} {a : Option Addr} {acs : List Ac} (h : Acts B w a acs) (hb : Below B w w') : Acts B w' a acs := by
  rcases h with h | ⟨b, off, rfl, hlt, hc⟩
  · exact .inl h
  · refine .inr ⟨b, off, rfl, hlt, fun j x hx => ?_⟩
    obtain ⟨h0, h1, h2⟩ := hc j x hx
    exact ⟨(hb.cell (p := ⟨b, _, none⟩) hlt).trans h0, (hb.cell (p := ⟨b, _, none⟩) hlt).trans h1, (hb.cell (p := ⟨b, _, none⟩) hlt).trans h2⟩
theorem Acts.get {B : Nat} {w : World} {a : Option Addr} {acs : List Ac} (h : Acts B w a acs) {j : Nat} {x : Ac} (hx : acs[j]? = some x) : ∃ b off, a = some ⟨b, off, none⟩ ∧ w.cell? ⟨b, off + j * 3, none⟩ = some (.int .u8 x.kind) ∧ w.cell? ⟨b, off + j * 3 + 1, none⟩ = some (.int .i64 x.x) ∧ w.cell? ⟨b, off + j * 3 + 2, none⟩ = some (.int .i64 x.i) := by
  rcases h with rfl | ⟨b, off, rfl, _, hc⟩
  · simp at hx
  · obtain ⟨h0, h1, h2⟩ := hc j x hx
    exact ⟨b, off, rfl, h0, h1, h2⟩

theorem choose_list {α : Type} (P : Nat → α → Prop) : ∀ n, (∀ i, i < n → ∃ x, P i x) → ∃ l : List α, l.length = n ∧ ∀ (j : Nat) (x : α), l[j]? = some x → P j x
  | 0, _ => ⟨[], rfl, by simp⟩
  | n + 1, h => by
    obtain ⟨l, hl, hp⟩ := choose_list P n (fun i hi => h i (by omega))
    obtain ⟨x, hx⟩ := h n (by omega)
    refine ⟨l ++ [x], by simp [hl], fun j y hy => ?_⟩
    by_cases hj : j < n
    · rw [List.getElem?_append_left (by omega)] at hy
      exact hp j y hy
    · rw [List.getElem?_append_right (by omega)] at hy
      have : j - l.length = 0 := by
        have := (List.getElem?_eq_some_iff.1 hy).1
        simp at this
        omega
      have hjn : j = n := by omega
      subst hjn
      rw [this] at hy
      simp at hy
      subst hy
      exact hx

section
variable {H : Type} {enc : TypeId × Value → H} {w : World} {base : Nat} {spare : Nat → Bool} {held : Bool}
theorem open_acts {r : Reach} {b0 : Nat} {v : Value} {d : DataW H} {p : List MemPlace} (hv : Value.okWide Try.prog w r b0 39 v) (h : DataW.Trod enc Try.prog w base spare held 39 v d p) :
    ∃ (a : Option Addr) (len cap : Nat) (acs : List Ac), v = .slice a len cap ∧ Acts w.heap.size w a acs ∧ acs.length = len ∧ ((len : Int) ≤ 9223372036854775807 ∧ ∀ ac ∈ acs, ac.Ok) := by
  obtain ⟨a, len, cap, rfl⟩ := okWide_slice Try.underlying39 hv
  obtain ⟨fuel, hf⟩ := h
  rcases Go.Deep.open_slice Try.underlying39 hf with ⟨hcs, _⟩ | ⟨x, l, c, m, n, D, Pl, hcs, hb, hlc, hm, hmm, hx, hi⟩
  · simp [Value.cells] at hcs
    obtain ⟨rfl, rfl, rfl⟩ := hcs
    exact ⟨_, _, _, [], rfl, .inl rfl, rfl, by decide, by simp⟩
  · simp [Value.cells] at hcs
    obtain ⟨rfl, rfl, rfl⟩ := hcs
    have e27 : Try.prog.cellsOf 42 = 3 := by kernel_rfl
    rw [e27] at hi
    have hml : len ≤ m := by
      rw [hmm]
      split <;> omega
    have hmax : (len : Int) ≤ 9223372036854775807 := by simp only [maxLen] at hm; omega
    have each : ∀ i, i < len → ∃ ac : Ac, (w.cell? (x.add (i * 3)) = some (.int .u8 ac.kind) ∧ w.cell? (x.add (i * 3 + 1)) = some (.int .i64 ac.x) ∧ w.cell? (x.add (i * 3 + 2)) = some (.int .i64 ac.i)) ∧ ac.Ok := by
      intro i hil
      obtain ⟨cs', hc, ht'⟩ := hi i (by omega)
      obtain ⟨_, hcl, hat⟩ := World.cells?_some hc
      obtain ⟨xs, n', _, _, _, hxl, hg⟩ := DataW.trod_struct Try.underlying42 ht'
      have hxl4 : xs.length = 3 := hxl
      match cs', hcl with
      | [c0, c1, c2], _ =>
        match xs, hxl4 with
        | [y0, y1, y2], _ =>
          have g0 : DataW.trod enc Try.prog w base spare held n' 5 [c0] = some y0 := hg 0 _ rfl
          have g1 : DataW.trod enc Try.prog w base spare held n' 2 [c1] = some y1 := hg 1 _ rfl
          have g2 : DataW.trod enc Try.prog w base spare held n' 3 [c2] = some y2 := hg 2 _ rfl
          obtain ⟨x0, e0, _, w0⟩ := DataW.trod_int Try.underlying5 g0
          obtain ⟨x1, e1, _, w1⟩ := DataW.trod_int Try.underlying2 g1
          obtain ⟨x2, e2, _, w2⟩ := DataW.trod_int Try.underlying3 g2
          simp at e0 e1 e2
          subst e0 e1 e2
          have a0 := hat 0 (by decide)
          have a1 := hat 1 (by decide)
          have a2 := hat 2 (by decide)
          rw [Go.Deep.add_add] at a0 a1 a2
          exact ⟨⟨x0, x1, x2⟩, ⟨a0, a1, a2⟩, bounds_u8 w0, bounds_i64 w1, bounds_i64 w2⟩
    obtain ⟨acs, hal, hac⟩ := choose_list _ len each
    refine ⟨_, _, _, acs, rfl, ?_, hal, hmax, fun ac hm => ?_⟩
    · by_cases h0 : len = 0
      · exact .inl (List.length_eq_zero_iff.1 (hal.trans h0))
      · obtain ⟨ac, ⟨hc0, _⟩, _⟩ := each 0 (by omega)
        obtain ⟨b, off, spot⟩ := x
        have hspot : spot = none := by simpa [Addr.add] using World.cell?_spot hc0
        subst hspot
        refine .inr ⟨b, off, rfl, by simpa [Addr.add] using World.block_lt_of_cell? w _ hc0, fun j y hy => ?_⟩
        have := (hac j y hy).1
        simp only [Addr.add_lit, ← Nat.add_assoc] at this
        exact this
    · obtain ⟨j, hj⟩ := List.mem_iff_getElem?.1 hm
      exact (hac j ac hj).2
end

end Go.Proofs.Ythehhnlkpcfofaa
