/-
  note.Encode: the plain law.
-/
import Derived.Test.YtehgbpepaakanaaDoorEa
namespace Go.Proofs.YtehgbpepaakanaaDoor
open Go.RowKit Go.Shelf
set_option linter.unusedVariables false
set_option linter.unusedSimpArgs false
set_option maxRecDepth 20000

/-- The numbers of a note. -/
def numsN (n : Nt) : List Int := [n.k, n.mob, n.tx, n.ep, n.v, n.ki, n.fr, n.tt, n.me]
def numV (x : Int) : CV := ⟨x.toNat, ⟨#[]⟩⟩
def valsN (n : Nt) : List CV := (numsN n).map numV ++ [⟨0, n.s⟩]
def shapeN : List Nat := [97, 97, 98, 99, 97, 97, 97, 97, 99, 116]
/-- The bytes of a note, ahead of the frame. -/
def noteB (n : Nt) : List Int := encAll shapeN (valsN n)
theorem valsN_len (n : Nt) : (valsN n).length = 10 := rfl

structure Ok8 (n : Nt) : Prop where
  mob : 0 ≤ n.mob ∧ n.mob < 256
  fr : 0 ≤ n.fr ∧ n.fr < 256
  tt : 0 ≤ n.tt ∧ n.tt < 256

/-- What a note that may be is like. -/
theorem right_range (n : Nt) (h : rightB n = true) (h8 : Ok8 n) : (0 ≤ n.k ∧ n.k < 256) ∧ (0 ≤ n.mob ∧ n.mob < 256) ∧ (0 ≤ n.tx ∧ n.tx < 65536) ∧ (0 ≤ n.ep ∧ n.ep < 4294967296) ∧ (0 ≤ n.v ∧ n.v < 256) ∧ (0 ≤ n.ki ∧ n.ki < 256) ∧ (0 ≤ n.fr ∧ n.fr < 256) ∧ (0 ≤ n.tt ∧ n.tt < 256) ∧ (0 ≤ n.me ∧ n.me < 4294967296) ∧ n.s.size ≤ 500 := by
  unfold rightB at h
  simp only [Bool.and_eq_true, decide_eq_true_eq] at h
  obtain ⟨⟨hk1, hk5⟩, ⟨⟨⟨hs, hmob⟩, htx⟩, hep⟩, hv⟩ := h
  have hsaid : (0 ≤ n.ki ∧ n.ki < 256) ∧ (0 ≤ n.me ∧ n.me < 4294967296) ∧ n.s.size ≤ 500 := by
    unfold saidB at hs
    split at hs
    · simp only [Bool.and_eq_true, decide_eq_true_eq] at hs
      omega
    · unfold zeroB at hs
      simp only [decide_eq_true_eq] at hs
      obtain ⟨h1, -, -, h2, h3⟩ := hs
      rw [h1, h2, h3]
      decide
  have htx' : 0 ≤ n.tx ∧ n.tx < 65536 := by
    unfold inR txR at htx
    simp only [decide_eq_true_eq] at htx
    split at htx <;> simp only at htx <;> omega
  have hep' : 0 ≤ n.ep ∧ n.ep < 4294967296 := by
    unfold inR epR at hep
    simp only [decide_eq_true_eq] at hep
    split at hep <;> simp only at hep <;> omega
  have hv' : 0 ≤ n.v ∧ n.v < 256 := by
    unfold inR vR at hv
    simp only [decide_eq_true_eq] at hv
    split at hv
    · simp only at hv; omega
    · split at hv <;> simp only at hv <;> omega
  exact ⟨by omega, h8.mob, htx', hep', hv', hsaid.1, h8.fr, h8.tt, hsaid.2.1, hsaid.2.2⟩

theorem note_fits (n : Nt) (h : rightB n = true) (h8 : Ok8 n) : ∀ (j : Nat) c x, shapeN[j]? = some c → (valsN n)[j]? = some x → Fits c x := by
  obtain ⟨a0, a1, a2, a3, a4, a5, a6, a7, a8, a9⟩ := right_range n h h8
  intro j c x hc hx
  have hj : j < 10 := (List.getElem?_eq_some_iff.1 hc).1
  have f1 : ∀ q : Int, 0 ≤ q ∧ q < 256 → Fits 97 (numV q) := fun q hq => ⟨.inl rfl, by rw [if_neg (by decide)]; exact ⟨rfl, by show q.toNat < 256 ^ 1; omega⟩⟩
  have f2 : ∀ q : Int, 0 ≤ q ∧ q < 65536 → Fits 98 (numV q) := fun q hq => ⟨.inr (.inl rfl), by rw [if_neg (by decide)]; exact ⟨rfl, by show q.toNat < 256 ^ 2; omega⟩⟩
  have f3 : ∀ q : Int, 0 ≤ q ∧ q < 4294967296 → Fits 99 (numV q) := fun q hq => ⟨.inr (.inr (.inl rfl)), by rw [if_neg (by decide)]; exact ⟨rfl, by show q.toNat < 256 ^ 4; omega⟩⟩
  rcases j with _ | _ | _ | _ | _ | _ | _ | _ | _ | _ | j
  all_goals simp only [shapeN, valsN, numsN, List.map_cons, List.map_nil, List.cons_append, List.nil_append, List.getElem?_cons_zero, List.getElem?_cons_succ, Option.some.injEq] at hc hx
  · subst hc hx; exact f1 _ a0
  · subst hc hx; exact f1 _ a1
  · subst hc hx; exact f2 _ a2
  · subst hc hx; exact f3 _ a3
  · subst hc hx; exact f1 _ a4
  · subst hc hx; exact f1 _ a5
  · subst hc hx; exact f1 _ a6
  · subst hc hx; exact f1 _ a7
  · subst hc hx; exact f3 _ a8
  · subst hc hx; exact ⟨.inr (.inr (.inr (.inr rfl))), by rw [if_pos rfl]; exact ⟨rfl, Nat.le_trans a9 (by decide)⟩⟩
  · omega
theorem noteB_len (n : Nt) : (noteB n).length = 18 + n.s.size := by
  simp [noteB, encAll, shapeN, valsN, numsN, encV, be_len, strB_len, widthOf]
  omega
theorem noteB_byts (n : Nt) : Byts (noteB n) := encAll_byts _ _

end Go.Proofs.YtehgbpepaakanaaDoor
