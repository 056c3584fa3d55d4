/-
  Air as a whole: its blocks, its letters by end; what one ring's step does to it.
-/
import Derived.Test.YtehgbpepaakanaaDoorB
namespace Go.Proofs.YtehgbpepaakanaaDoor
open Go.RowKit
set_option linter.unusedVariables false
set_option maxRecDepth 20000
set_option linter.unusedSimpArgs false

/-- A letter: from, to, bytes. -/
structure Lt where
  f : Int
  t : Int
  bs : List Int
/-- A letter in a row: its cells, and its bytes. -/
structure LX where
  lv : Lv
  bs : List Int
def LX.sv (x : LX) : Value := .slice x.lv.a x.lv.m x.lv.d
def LX.lt (x : LX) : Lt := ⟨x.lv.f, x.lv.t, x.bs⟩
def LX.blk (x : LX) : Option Nat := x.sv.ownBlock

/-- Block k is a row of cells of type t. -/
def Typed (w : World) (k : Nat) (t : TypeId) : Prop := ∃ cs, w.heap[k]? = some (.cells cs t (0, 0))
theorem Typed.ne {w : World} {k k' : Nat} {t t' : TypeId} (h : Typed w k t) (h' : Typed w k' t') (ht : t ≠ t') : k ≠ k' := by
  rintro rfl
  obtain ⟨c, hc⟩ := h
  obtain ⟨c', hc'⟩ := h'
  rw [hc] at hc'
  simp at hc'
  exact ht hc'.2
theorem Typed.lt {w : World} {k : Nat} {t : TypeId} (h : Typed w k t) : k < w.heap.size := by obtain ⟨c, hc⟩ := h; exact lt_of_heap hc
theorem row_typed {w : World} {base e size n : Nat} {v : Value} {xs : List Value} (h : w.ownsRow base e size v n xs) {g : Nat} (hg : v.ownBlock = some g) : Typed w g e := by
  rcases h.2 with ⟨rfl, _⟩ | ⟨g', cap, cur, rfl, _, hh, _⟩
  · simp [Value.ownBlock] at hg
  · have : g' = g := by simpa [Value.ownBlock] using hg
    subst this
    exact ⟨cur, hh⟩

def upd {α : Type} (f : Nat → α) (i : Nat) (x : α) : Nat → α := fun j => if j = i then x else f j
@[simp] theorem upd_same {α : Type} (f : Nat → α) (i : Nat) (x : α) : upd f i x i = x := if_pos rfl
theorem upd_other {α : Type} (f : Nat → α) {i j : Nat} (x : α) (h : j ≠ i) : upd f i x j = f j := if_neg h

def ptrs (b : Nat → Nat) : Array Value := ((List.range 17).map fun i => Value.pointer (some ⟨b i, 0, none⟩)).toArray
theorem ptrs_get (b : Nat → Nat) (i : Nat) (h : i < 17) : (ptrs b)[i]? = some (.pointer (some ⟨b i, 0, none⟩)) := by
  unfold ptrs
  rw [List.getElem?_toArray, List.getElem?_map, List.getElem?_range h]
  rfl

/-- Two letters' bytes lie apart. -/
def LX.apart (x y : LX) : Prop := ∀ g, x.blk = some g → y.blk ≠ some g

structure AirW (w : World) (A : Nat) (room : Int) (b : Nat → Nat) (v : Nat → Value) (L : Nat → List LX) : Prop where
  air : w.heap[A]? = some (.cells (ptrs b) 89 (0, 0))
  ring : ∀ i, i < 17 → R3 w (b i) (v i) room ((L i).map LX.lv)
  byt : ∀ i, i < 17 → ∀ x ∈ L i, BS w x.sv x.bs
  bd : ∀ i j, i < 17 → j < 17 → i ≠ j → b i ≠ b j
  vd : ∀ i j, i < 17 → j < 17 → i ≠ j → ∀ g, (v i).ownBlock = some g → (v j).ownBlock ≠ some g
  xd : ∀ i j, i < 17 → j < 17 → i ≠ j → ∀ x ∈ L i, ∀ y ∈ L j, x.apart y
  xp : ∀ i, i < 17 → (L i).Pairwise LX.apart
  len : ∀ i, i < 17 → ((L i).length : Int) ≤ room

/-- The air's blocks. -/
def Blocks (A : Nat) (b : Nat → Nat) (v : Nat → Value) (L : Nat → List LX) (k : Nat) : Prop := k = A ∨ ∃ i, i < 17 ∧ (Of (b i) (v i) k ∨ ∃ x ∈ L i, x.blk = some k)

section
variable {w w' : World} {A : Nat} {room : Int} {b : Nat → Nat} {v : Nat → Value} {L : Nat → List LX}

theorem AirW.of_typed (h : AirW w A room b v L) {i k : Nat} (hi : i < 17) (hk : Of (b i) (v i) k) : Typed w k 129 ∨ Typed w k 37 := by
  rcases hk with rfl | hk
  · exact .inl ⟨_, (h.ring i hi).1⟩
  · exact .inr (row_typed (h.ring i hi).2 hk)
theorem AirW.x_typed (h : AirW w A room b v L) {i k : Nat} (hi : i < 17) {x : LX} (hx : x ∈ L i) (hk : x.blk = some k) : Typed w k 5 := row_typed (h.byt i hi x hx) hk
theorem AirW.lt (h : AirW w A room b v L) {k : Nat} (hk : Blocks A b v L k) : k < w.heap.size := by
  rcases hk with rfl | ⟨i, hi, hk | ⟨x, hx, hk⟩⟩
  · exact lt_of_heap h.air
  · exact (h.of_typed hi hk).elim Typed.lt Typed.lt
  · exact (h.x_typed hi hx hk).lt

/-- Where none of the air's blocks is turned the air is as it was. -/
theorem AirW.keep (h : AirW w A room b v L) {S : Nat → Prop} (hu : Upd S w w') (hs : ∀ k, Blocks A b v L k → ¬ S k) : AirW w' A room b v L :=
  ⟨hu.heap h.air (hs _ (.inl rfl)), fun i hi => (h.ring i hi).upd hu (fun k hk => hs k (.inr ⟨i, hi, .inl hk⟩)), fun i hi x hx => (h.byt i hi x hx).upd hu (fun k hk => hs k (.inr ⟨i, hi, .inr ⟨x, hx, hk⟩⟩)),
    h.bd, h.vd, h.xd, h.xp, h.len⟩

/-- Two rings' blocks lie apart. -/
theorem AirW.of_apart (h : AirW w A room b v L) {i j : Nat} (hi : i < 17) (hj : j < 17) (hij : j ≠ i) {k : Nat} (hk : Of (b j) (v j) k) : ¬ Of (b i) (v i) k := by
  have ti : Typed w (b i) 129 := ⟨_, (h.ring i hi).1⟩
  have tj : Typed w (b j) 129 := ⟨_, (h.ring j hj).1⟩
  rcases hk with rfl | hk
  · rintro (e | e)
    · exact h.bd j i hj hi hij e
    · exact tj.ne (row_typed (h.ring i hi).2 e) (by decide) rfl
  · rintro (rfl | e)
    · exact ti.ne (row_typed (h.ring j hj).2 hk) (by decide) rfl
    · exact h.vd j i hj hi hij k hk e
theorem AirW.x_not_of (h : AirW w A room b v L) {i j : Nat} (hi : i < 17) (hj : j < 17) {x : LX} (hx : x ∈ L j) {k : Nat} (hk : x.blk = some k) : ¬ Of (b i) (v i) k := fun e =>
  (h.of_typed hi e).elim (fun t => t.ne (h.x_typed hj hx hk) (by decide) rfl) (fun t => t.ne (h.x_typed hj hx hk) (by decide) rfl)
theorem AirW.a_not_of (h : AirW w A room b v L) {i : Nat} (hi : i < 17) : ¬ Of (b i) (v i) A := fun e =>
  (h.of_typed hi e).elim (fun t => t.ne ⟨_, h.air⟩ (by decide) rfl) (fun t => t.ne ⟨_, h.air⟩ (by decide) rfl)

/-- One ring takes a step: its row and its letters are others. -/
theorem AirW.step (h : AirW w A room b v L) {i : Nat} (hi : i < 17) {v' : Value} {l' : List LX} (hR : R3 w' (b i) v' room (l'.map LX.lv)) (hU : Upd (Of (b i) (v i)) w w')
    (ho : v'.ownBlock = (v i).ownBlock ∨ ∃ g, v'.ownBlock = some g ∧ w.heap.size ≤ g) (hl : ∀ x ∈ l', x ∈ L i ∨ (BS w' x.sv x.bs ∧ ∀ g, x.blk = some g → ¬ Blocks A b v L g)) (hp : l'.Pairwise LX.apart) (hn : (l'.length : Int) ≤ room) :
    AirW w' A room b (upd v i v') (upd L i l') := by
  refine ⟨hU.heap h.air (h.a_not_of hi), fun j hj => ?_, fun j hj x hx => ?_, h.bd, fun j k hj hk hjk g hg => ?_, fun j k hj hk hjk x hx y hy => ?_, fun j hj => ?_, fun j hj => ?_⟩
  · by_cases e : j = i
    · subst e; rw [upd_same, upd_same]; exact hR
    · rw [upd_other _ _ e, upd_other _ _ e]
      exact (h.ring j hj).upd hU (fun k hk => h.of_apart hi hj e hk)
  · by_cases e : j = i
    · subst e
      rw [upd_same] at hx
      rcases hl x hx with hx | hx
      · exact (h.byt j hj x hx).upd hU (fun k hk => h.x_not_of hi hj hx hk)
      · exact hx.1
    · rw [upd_other _ _ e] at hx
      exact (h.byt j hj x hx).upd hU (fun k hk => h.x_not_of hi hj hx hk)
  · by_cases ej : j = i
    · subst ej
      have ek : k ≠ j := fun e => hjk e.symm
      rw [upd_same] at hg
      rw [upd_other _ _ ek]
      rcases ho with e | ⟨g', e, hg'⟩
      · rw [e] at hg; exact h.vd j k hj hk hjk g hg
      · intro hv
        rw [e] at hg
        cases hg
        have := (row_typed (h.ring k hk).2 hv).lt
        omega
    · rw [upd_other _ _ ej] at hg
      by_cases ek : k = i
      · subst ek
        rw [upd_same]
        rcases ho with e | ⟨g', e, hg'⟩
        · rw [e]; exact h.vd j k hj hk hjk g hg
        · intro hv
          rw [e] at hv
          cases hv
          have := (row_typed (h.ring j hj).2 hg).lt
          omega
      · rw [upd_other _ _ ek]
        exact h.vd j k hj hk hjk g hg
  · by_cases ej : j = i
    · subst ej
      have ek : k ≠ j := fun e => hjk e.symm
      rw [upd_same] at hx
      rw [upd_other _ _ ek] at hy
      rcases hl x hx with hx | hx
      · exact h.xd j k hj hk hjk x hx y hy
      · intro g hg hy'
        exact hx.2 g hg (.inr ⟨k, hk, .inr ⟨y, hy, hy'⟩⟩)
    · rw [upd_other _ _ ej] at hx
      by_cases ek : k = i
      · subst ek
        rw [upd_same] at hy
        rcases hl y hy with hy | hy
        · exact h.xd j k hj hk hjk x hx y hy
        · intro g hg hy'
          exact hy.2 g hy' (.inr ⟨j, hj, .inr ⟨x, hx, hg⟩⟩)
      · rw [upd_other _ _ ek] at hy
        exact h.xd j k hj hk hjk x hx y hy
  · by_cases e : j = i
    · subst e; rw [upd_same]; exact hp
    · rw [upd_other _ _ e]; exact h.xp j hj
  · by_cases e : j = i
    · subst e; rw [upd_same]; exact hn
    · rw [upd_other _ _ e]; exact h.len j hj

/-- .. and its blocks are the old ones, or new. -/
theorem AirW.step_blocks (h : AirW w A room b v L) {i : Nat} (hi : i < 17) {v' : Value} {l' : List LX} (ho : v'.ownBlock = (v i).ownBlock ∨ ∃ g, v'.ownBlock = some g ∧ w.heap.size ≤ g)
    (hl : ∀ x ∈ l', x ∈ L i ∨ ∀ g, x.blk = some g → w.heap.size ≤ g) : ∀ k, Blocks A b (upd v i v') (upd L i l') k → Blocks A b v L k ∨ w.heap.size ≤ k := by
  rintro k (rfl | ⟨j, hj, hk | ⟨x, hx, hk⟩⟩)
  · exact .inl (.inl rfl)
  · by_cases e : j = i
    · subst e
      rw [upd_same] at hk
      rcases hk with rfl | hk
      · exact .inl (.inr ⟨j, hj, .inl (.inl rfl)⟩)
      · rcases ho with e | ⟨g, e, hg⟩
        · exact .inl (.inr ⟨j, hj, .inl (.inr (e.symm.trans hk))⟩)
        · rw [e] at hk; cases hk; exact .inr hg
    · rw [upd_other _ _ e] at hk
      exact .inl (.inr ⟨j, hj, .inl hk⟩)
  · by_cases e : j = i
    · subst e
      rw [upd_same] at hx
      rcases hl x hx with hx | hx
      · exact .inl (.inr ⟨j, hj, .inr ⟨x, hx, hk⟩⟩)
      · exact .inr (hx k hk)
    · rw [upd_other _ _ e] at hx
      exact .inl (.inr ⟨j, hj, .inr ⟨x, hx, hk⟩⟩)
end

/-- AIR: block A; its blocks lie in P; room; st: the letters to each end. -/
def AirAt (w : World) (P : Nat → Prop) (A : Nat) (room : Int) (st : Nat → List Lt) : Prop :=
  ∃ b v L, AirW w A room b v L ∧ (∀ k, Blocks A b v L k → P k) ∧ ∀ i, i < 17 → st i = (L i).map LX.lt

theorem AirAt.keep {w w' : World} {P : Nat → Prop} {A : Nat} {room : Int} {st : Nat → List Lt} (h : AirAt w P A room st) {S : Nat → Prop} (hu : Upd S w w') (hs : ∀ k, P k → ¬ S k) : AirAt w' P A room st := by
  obtain ⟨b, v, L, hA, hP, hst⟩ := h
  exact ⟨b, v, L, hA.keep hu (fun k hk => hs k (hP k hk)), hP, hst⟩
theorem AirAt.below {w w' : World} {P : Nat → Prop} {A : Nat} {room : Int} {st : Nat → List Lt} (h : AirAt w P A room st) (hb : Below w.heap.size w w') : AirAt w' P A room st :=
  h.keep (Upd.of_below hb (fun _ => False)) (fun _ _ h => h)

end Go.Proofs.YtehgbpepaakanaaDoor
