/-
  Air: slices of slices of bytes that came in.
-/
import Derived.Test.YtehgbpepaakanaaJ
namespace Go.Proofs.Ytehgbpepaakanaa
open Go.RowKit
set_option linter.unusedVariables false
set_option linter.unusedSimpArgs false

/-- A slice of bytes that came in. -/
structure SB where
  a : Option Addr
  m : Nat
  d : Nat
  bs : List Int
def SB.v (x : SB) : Value := .slice x.a x.m x.d
def SB.In (x : SB) : Prop := ∀ y ∈ x.bs, 0 ≤ y ∧ y ≤ 255
/-- A slice of such. -/
def Bs2 (w : World) (a : Option Addr) (xs : List SB) : Prop :=
  xs = [] ∨ ∃ b off, a = some ⟨b, off, none⟩ ∧ b < w.heap.size ∧ ∀ (j : Nat) (x : SB), xs[j]? = some x → w.cell? ⟨b, off + j, none⟩ = some (.slice x.a x.m x.d) ∧ BR w x.a x.m x.d x.bs ∧ x.In
theorem Bs2.below {w w' : World} {a : Option Addr} {xs : List SB} (h : Bs2 w a xs) (hb : Below w.heap.size w w') : Bs2 w' a xs := by
  rcases h with h | ⟨b, off, rfl, hlt, hc⟩
  · exact .inl h
  · exact .inr ⟨b, off, rfl, Nat.lt_of_lt_of_le hlt hb.size, fun j x hx => ⟨(hb.cell (p := ⟨b, _, none⟩) hlt).trans (hc j x hx).1, (hc j x hx).2.1.below hb, (hc j x hx).2.2⟩⟩
theorem Bs2.get {w : World} {a : Option Addr} {xs : List SB} (h : Bs2 w a xs) {j : Nat} {x : SB} (hx : xs[j]? = some x) : ∃ b off, a = some ⟨b, off, none⟩ ∧ w.cell? ⟨b, off + j, none⟩ = some (.slice x.a x.m x.d) ∧ BR w x.a x.m x.d x.bs ∧ x.In := by
  rcases h with rfl | ⟨b, off, rfl, _, hc⟩
  · simp at hx
  · obtain ⟨h0, h1, h2⟩ := hc j x hx
    exact ⟨b, off, rfl, h0, h1, h2⟩

/-- The letters that are sent. -/
def sent (F T : Int) (xs : List SB) : List Lt := (xs.filter fun x => decide (x.m ≤ 4000)).map fun x => ⟨F, T, x.bs⟩
theorem sent_len (F T : Int) (xs : List SB) : (sent F T xs).length ≤ xs.length := by simp [sent]; exact List.length_filter_le _ _
theorem sent_more (F T : Int) (xs : List SB) (k : Nat) (x : SB) (hx : xs[k]? = some x) (hm : x.m ≤ 4000) : sent F T (xs.take (k + 1)) = sent F T (xs.take k) ++ [⟨F, T, x.bs⟩] := by
  rw [List.take_add_one, hx]
  simp [sent, List.filter_append, hm]
theorem sent_same (F T : Int) (xs : List SB) (k : Nat) (x : SB) (hx : xs[k]? = some x) (hm : ¬ x.m ≤ 4000) : sent F T (xs.take (k + 1)) = sent F T (xs.take k) := by
  rw [List.take_add_one, hx]
  simp [sent, List.filter_append]
  omega
theorem drop_cons' (xs : List SB) (k : Nat) (x : SB) (hx : xs[k]? = some x) : xs.drop k = x :: xs.drop (k + 1) := by
  obtain ⟨h, e⟩ := List.getElem?_eq_some_iff.1 hx
  rw [List.drop_eq_getElem_cons h, e]
theorem sent_drop (F T : Int) (xs : List SB) (k : Nat) (x : SB) (hx : xs[k]? = some x) (hm : x.m ≤ 4000) : sent F T (xs.drop k) = ⟨F, T, x.bs⟩ :: sent F T (xs.drop (k + 1)) := by
  rw [drop_cons' xs k x hx]
  simp [sent, hm]
theorem sent_pass (F T : Int) (xs : List SB) (k : Nat) (x : SB) (hx : xs[k]? = some x) (hm : ¬ x.m ≤ 4000) : sent F T (xs.drop k) = sent F T (xs.drop (k + 1)) := by
  rw [drop_cons' xs k x hx]
  simp [sent, hm]

end Go.Proofs.Ytehgbpepaakanaa
