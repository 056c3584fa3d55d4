/-
  Two airs side by side.
-/
import Derived.Test.YtehgbpepaakanaaA6
namespace Go.Proofs.Ytehgbpepaakanaa
open Go.RowKit Go.Joins
set_option linter.unusedVariables false
set_option linter.unusedSimpArgs false

/-- Two airs that share no block, and none with N. -/
def Two (N : Nat → Prop) (w : World) (A B : Nat) (sa sb : Nat → List Lt) : Prop :=
  ∃ PA PB, AirAt w PA A 50 sa ∧ AirAt w PB B 50 sb ∧ (∀ k, PA k → ¬ N k) ∧ (∀ k, PB k → ¬ N k) ∧ (∀ k, PA k → ¬ PB k) ∧ (∀ k, N k → k < w.heap.size) ∧ (∀ k, PA k → k < w.heap.size) ∧ (∀ k, PB k → k < w.heap.size)
theorem Two.swap {N : Nat → Prop} {w : World} {A B : Nat} {sa sb : Nat → List Lt} (h : Two N w A B sa sb) : Two N w B A sb sa := by
  obtain ⟨PA, PB, h1, h2, h3, h4, h5, h6, h7, h8⟩ := h
  exact ⟨PB, PA, h2, h1, h4, h3, fun k hb ha => h5 k ha hb, h6, h8, h7⟩
theorem AirHi.parts {N : Nat → Prop} {w : World} {A : Nat} {room : Int} {st : Nat → List Lt} (h : AirHi N w A room st) : ∃ P, AirAt w P A room st ∧ (∀ k, P k → ¬ N k) ∧ ∀ k, P k → k < w.heap.size := by
  obtain ⟨P, ⟨b, v, L, h1, h2, h3⟩, h4, h5⟩ := h
  exact ⟨Blocks A b v L, ⟨b, v, L, h1, fun _ h => h, h3⟩, fun k hk hn => h4 k (h2 k hk) hn, fun k hk => h1.lt hk⟩
/-- The first of two takes a step. -/
theorem Two.first {N : Nat → Prop} {w : World} {A B : Nat} {sa sb : Nat → List Lt} (h : Two N w A B sa sb) : ∃ M, (∀ q, N q → M q) ∧ AirHi M w A 50 sa ∧ ∀ w' sa' N', (∀ q, M q → N' q) → AirHi N' w' A 50 sa' → Kept M w w' → Two N w' A B sa' sb := by
  obtain ⟨PA, PB, h1, h2, h3, h4, h5, h6, h7, h8⟩ := h
  refine ⟨fun q => N q ∨ PB q, fun q hq => .inl hq, ⟨PA, h1, fun k hk hn => hn.elim (h3 k hk) (h5 k hk), fun k hk => hk.elim (h6 k) (h8 k), by decide, by decide⟩, fun w' sa' N' hN hA hK => ?_⟩
  obtain ⟨PA', g1, g2, g3⟩ := hA.parts
  exact ⟨PA', PB, g1, h2.keep hK (fun k hk hn => hn (.inr hk)), fun k hk hn => g2 k hk (hN k (.inl hn)), h4, fun k hk hb => g2 k hk (hN k (.inr hb)), fun k hk => Nat.lt_of_lt_of_le (h6 k hk) hK.size, g3, fun k hk => Nat.lt_of_lt_of_le (h8 k hk) hK.size⟩
theorem Two.below {N : Nat → Prop} {w w' : World} {A B : Nat} {sa sb : Nat → List Lt} (h : Two N w A B sa sb) (hb : Below w.heap.size w w') : Two N w' A B sa sb := by
  obtain ⟨PA, PB, h1, h2, h3, h4, h5, h6, h7, h8⟩ := h
  have hs := hb.size
  exact ⟨PA, PB, h1.below hb, h2.below hb, h3, h4, h5, fun k hk => Nat.lt_of_lt_of_le (h6 k hk) hs, fun k hk => Nat.lt_of_lt_of_le (h7 k hk) hs, fun k hk => Nat.lt_of_lt_of_le (h8 k hk) hs⟩
theorem Two.less {N N' : Nat → Prop} {w : World} {A B : Nat} {sa sb : Nat → List Lt} (h : Two N w A B sa sb) (hn : ∀ k, N' k → N k) : Two N' w A B sa sb := by
  obtain ⟨PA, PB, h1, h2, h3, h4, h5, h6, h7, h8⟩ := h
  exact ⟨PA, PB, h1, h2, fun k hk hn' => h3 k hk (hn k hn'), fun k hk hn' => h4 k hk (hn k hn'), h5, fun k hk => h6 k (hn k hk), h7, h8⟩
theorem Two.len {N : Nat → Prop} {w : World} {A B : Nat} {sa sb : Nat → List Lt} (h : Two N w A B sa sb) (t : Nat) (ht : t < 17) :
    Calls Try.prog 13 #[.pointer (some ⟨A, 0, none⟩), .int .u8 t] w fun e w' => e = .returned (.int .i64 ((sa t).length : Nat)) ∧ w = w' := by
  obtain ⟨M, _, hA, _⟩ := h.first
  exact len_hi t hA ht

/-- An act of the first, beside a reference that is not asked. -/
theorem Two.act {W w : World} {A B : Nat} {sa sb : Nat → List Lt} {N : Nat → Prop} (hW : ∀ q, q < W.heap.size → N q) (h : Two N w A B sa sb) (hg : Good sa) (k f : Int) (t : Nat) (a : Option Addr) (m d : Nat) (bs : List Int) (i : Int) (pl : Nat) (z : Int) (ht2 : t ≤ 255) (hpl : pl < 65536) (hbs : BR w a m d bs) (hbN : d ≠ 0 → ∀ g, (Value.slice a m d).ownBlock = some g → g < W.heap.size) :
    Calls Try.prog 15 #[.pointer (some ⟨A, 0, none⟩), .agg #[.slice none 0 0, .int .i64 0], .agg #[.int .u8 k, .int .u8 f, .int .u8 t, .slice a m d, .int .i64 i, .int .u16 pl, .int .u8 z]] w fun e w' => ∃ v, e = .returned v ∧ Two N w' A B (upd sa t (stepL 50 k f t (sa t) bs i pl z)) sb ∧ Kept N w w' := by
  obtain ⟨M, hM, hA, hnext⟩ := h.first
  refine (does_is M (fun q => q < W.heap.size) (fun q hq => hM q (hW q hq)) A none 0 0 50 0 k f t a m d bs i pl z w sa [] hA hg ⟨⟨rfl, Nat.le_refl _, by decide, fun x hx => (by cases hx), .inl rfl⟩, ⟨fun p hp => (by cases hp), fun x hx => (by cases hx)⟩⟩ (fun x hx => (by cases hx)) (by decide) ht2 hpl hbs hbN).mono ?_
  rintro e w' ⟨a', n', c', r, rfl, N', NR', xl', hN', hA5, hR5, hNR5, hNR6, hK5, hn5, hok5, hTie⟩
  exact ⟨_, rfl, hnext w' _ N' hN' hA5 hK5, hK5.less hM⟩

/-- Take, in the air's words; what is taken was the air's. -/
theorem take_air2 (P : Nat → Prop) (A : Nat) (room : Int) (st : Nat → List Lt) (t i : Nat) (x : Lt) (w : World) (h : AirAt w P A room st) (hr : 0 < room) (hr2 : room ≤ 1000) (ht : t < 17) (hx : (st t)[i]? = some x) :
    Calls Try.prog 12 #[.pointer (some ⟨A, 0, none⟩), .int .u8 t, .int .i64 i] w fun e w' => ∃ a m d, e = .returned (.tuple #[.agg #[.int .u8 x.f, .int .u8 x.t, .slice a m d], .int .i64 0]) ∧ BS w' (.slice a m d) x.bs ∧ (∀ g, (Value.slice a m d).ownBlock = some g → P g) ∧
      ∃ P', AirAt w' P' A room (upd st t ((st t).eraseIdx i)) ∧ Upd P w w' ∧ (∀ k, P' k → P k) ∧ ∀ g, (Value.slice a m d).ownBlock = some g → ¬ P' g := by
  obtain ⟨b, v, L, hA, hP, hst⟩ := h
  rw [hst t ht] at hx
  obtain ⟨⟨⟨f, tt, a, m, d⟩, bs⟩, hy, rfl⟩ := some_lx hx
  refine (take_ok A room b v L t i f tt a m d bs w hA hr hr2 ht hy).mono ?_
  rintro e w' ⟨rfl, v', hR, hU, ho⟩
  obtain ⟨h1, h2, h3, h4⟩ := hA.drop ht hy hR hU ho
  refine ⟨a, m, d, rfl, h2, fun g hg => hP g (.inr ⟨t, ht, .inr ⟨_, List.mem_of_getElem? hy, hg⟩⟩), _, ⟨b, _, _, h1, fun _ h => h, fun j hj => ?_⟩, hU.mono (fun k _ h => hP k (.inr ⟨t, ht, .inl h⟩)), fun k h => hP k (h4 k h), h3⟩
  by_cases e : j = t
  · subst e; rw [upd_same, upd_same, hst j hj, map_erase]
  · rw [upd_other _ _ e, upd_other _ _ e]; exact hst j hj

/-- Take from the front, where there is a letter. -/
theorem Two.take {N : Nat → Prop} {w : World} {A B : Nat} {sa sb : Nat → List Lt} (h : Two N w A B sa sb) (t : Nat) (ht : t < 17) (y : Lt) (r : List Lt) (hy : sa t = y :: r) :
    Calls Try.prog 12 #[.pointer (some ⟨A, 0, none⟩), .int .u8 t, .int .i64 0] w fun e w' => ∃ a m d, e = .returned (.tuple #[.agg #[.int .u8 y.f, .int .u8 y.t, .slice a m d], .int .i64 0]) ∧ BR w' a m d y.bs ∧ Two (fun q => N q ∨ (Value.slice a m d).ownBlock = some q) w' A B (upd sa t r) sb ∧ Kept N w w' := by
  obtain ⟨PA, PB, h1, h2, h3, h4, h5, h6, h7, h8⟩ := h
  refine (take_air2 PA A 50 sa t 0 y w h1 (by decide) (by decide) ht (by rw [hy]; rfl)).mono ?_
  rintro e w' ⟨a, m, d, rfl, hS, hown, PA', g1, hU, g2, g3⟩
  have e : (sa t).eraseIdx 0 = r := by rw [hy]; rfl
  rw [e] at g1
  have hs := hU.size
  refine ⟨a, m, d, rfl, hS.readS, ⟨PA', PB, g1, h2.keep hU (fun k hk hp => h5 k hp hk), ?_, ?_, fun k hk hb => h5 k (g2 k hk) hb, ?_, fun k hk => Nat.lt_of_lt_of_le (h7 k (g2 k hk)) hs, fun k hk => Nat.lt_of_lt_of_le (h8 k hk) hs⟩, hU.mono (fun k _ hp => h3 k hp)⟩
  · rintro k hk (hn | hn)
    · exact h3 k (g2 k hk) hn
    · exact g3 k hn hk
  · rintro k hk (hn | hn)
    · exact h4 k hk hn
    · exact h5 k (hown k hn) hk
  · rintro k (hn | hn)
    · exact Nat.lt_of_lt_of_le (h6 k hn) hs
    · exact hS.lt k hn

/-- How many letters to an end there are. -/
def lenOf (w : World) (A t : Nat) : Nat := match w.cell? ⟨A, t, none⟩ with
  | some (.pointer (some p)) => match w.cell? p with
    | some (.slice _ n _) => n
    | _ => 0
  | _ => 0
theorem AirAt.lenOf {w : World} {P : Nat → Prop} {A : Nat} {room : Int} {st : Nat → List Lt} (h : AirAt w P A room st) (t : Nat) (ht : t < 17) : Go.Proofs.Ytehgbpepaakanaa.lenOf w A t = (st t).length := by
  obtain ⟨b, v, L, h1, h2, h3⟩ := h
  have hr := h1.ring t ht
  obtain ⟨a, c, hv, _⟩ := RA.slice hr
  have c0 := RA.c0 hr
  unfold Go.Proofs.Ytehgbpepaakanaa.lenOf
  rw [h1.c0 t ht]
  simp only
  rw [c0, hv, h3 t ht]
  simp

end Go.Proofs.Ytehgbpepaakanaa
