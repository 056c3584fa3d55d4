/-
  The law of air: does, of any act.
-/
import Derived.Test.YtehgbpepaakanaaA3
namespace Go.Proofs.Ytehgbpepaakanaa
open Go.RowKit Go.Joins
set_option linter.unusedVariables false
set_option linter.unusedSimpArgs false

theorem AirHi.keepN {N S : Nat → Prop} {w w' : World} {A : Nat} {room : Int} {st : Nat → List Lt} (h : AirHi N w A room st) (hu : Upd S w w') (hs : ∀ k, S k → N k) : AirHi N w' A room st := by
  obtain ⟨P, h1, h2, h3, h4⟩ := h
  exact ⟨P, h1.keep hu (fun k hk hS => h2 k hk (hs k hS)), h2, fun k hk => Nat.lt_of_lt_of_le (h3 k hk) hu.size, h4⟩
theorem AirHi.lt {N : Nat → Prop} {w : World} {A : Nat} {room : Int} {st : Nat → List Lt} (h : AirHi N w A room st) : ∀ k, N k → k < w.heap.size := by
  obtain ⟨P, h1, h2, h3, h4⟩ := h
  exact h3

/-- How things stand behind the calls of an act, the result not yet stored. -/
def Aft (N NR : Nat → Prop) (w : World) (A : Nat) (room : Int) (st' : Nat → List Lt) (v : Value) (nl : Nat) (w4 : World) (Sp : List LX → Prop) : Prop :=
  ∃ N1 N2 xs' a' n' c', v = .slice a' n' c' ∧ (∀ q, N q → N1 q) ∧ N1 (w.heap.size + 1 + 1) ∧ AirHi N1 w4 A room st' ∧ RLN N2 w4 a' n' c' xs' ∧ (∀ q, N2 q → N1 q ∧ q ≠ w.heap.size + 1 + 1 ∧ (NR q ∨ w.heap.size ≤ q)) ∧ (∀ q, NR q → N2 q) ∧ Kept N w w4 ∧ n' ≤ nl + 1 ∧ Sp xs'

/-- .. and stored. -/
def Fin (N NR : Nat → Prop) (w : World) (A : Nat) (room : Int) (st' : Nat → List Lt) (a' : Option Addr) (n' c' : Nat) (nl : Nat) (w' : World) (Sp : List LX → Prop) : Prop :=
  ∃ N' NR' xs', (∀ q, N q → N' q) ∧ AirHi N' w' A room st' ∧ RLN NR' w' a' n' c' xs' ∧ (∀ q, NR' q → N' q ∧ (NR q ∨ w.heap.size ≤ q)) ∧ (∀ q, NR q → NR' q) ∧ Kept N w w' ∧ n' ≤ nl + 1 ∧ Sp xs'

theorem Aft.fin {N NR : Nat → Prop} {w w4 w' : World} {A : Nat} {room : Int} {st' : Nat → List Lt} {a : Option Addr} {n c nl : Nat} {Sp : List LX → Prop} (h : Aft N NR w A room st' (.slice a n c) nl w4 Sp) (hN : ∀ q, N q → q < w.heap.size) (hu : Upd (fun q => q = w.heap.size + 1 + 1) w4 w') : Fin N NR w A room st' a n c nl w' Sp := by
  obtain ⟨N1, N2, xs', a', n', c', hv, h1, h2, h3, h4, h5, h5', h6, h7, h8⟩ := h
  cases hv
  exact ⟨N1, N2, xs', h1, h3.keepN hu (fun k e => e ▸ h2), h4.upd hu (fun k hk e => (h5 k hk).2.1 e), fun q hq => ⟨(h5 q hq).1, (h5 q hq).2.2⟩, h5', h6.trans (hu.mono (fun k _ e hn => by have := hN k hn; omega)), h7, h8⟩

theorem Aft.of {N NR : Nat → Prop} {w w1 w2 w3 w4 : World} {A : Nat} {room : Int} {st' : Nat → List Lt} {a : Option Addr} {n c nl : Nat} {xs' : List LX} {Sp : List LX → Prop} (hN : ∀ q, N q → q < w.heap.size) (hNR : ∀ q, NR q → N q) (hB : Below w.heap.size w w1) (hl : w.heap.size + 1 + 1 < w1.heap.size)
    (hR : RLN (Nx NR w1 w2) w2 a n c xs') (hB2 : Below w1.heap.size w1 w2) (hB3 : Below w2.heap.size w2 w3) (hA : AirHi (fun q => N q ∨ Mid w w3 q) w4 A room st') (hK : Kept (fun q => N q ∨ Mid w w3 q) w3 w4) (hn : n ≤ nl + 1) (hS : Sp xs') : Aft N NR w A room st' (.slice a n c) nl w4 Sp := by
  have h1 := hB.size
  have h2 := hB2.size
  have h3 := hB3.size
  have hB03 : Below w.heap.size w w3 := (hB.trans (hB2.mono h1)).trans (hB3.mono (by omega))
  refine ⟨fun q => N q ∨ Mid w w3 q, Nx NR w1 w2, xs', a, n, c, rfl, fun q h => .inl h, .inr ⟨by omega, by omega⟩, hA, ?_, ?_, fun q h => .inl h, ?_, hn, hS⟩
  · refine (hR.below hB3).upd hK ?_
    rintro q (hq | hq) h
    · exact h (.inl (hNR q hq))
    · exact h (.inr ⟨by have := hq.1; omega, by have := hq.2; omega⟩)
  · rintro q (hq | hq)
    · exact ⟨.inl (hNR q hq), by have := hN q (hNR q hq); omega, .inl hq⟩
    · exact ⟨.inr ⟨by have := hq.1; omega, by have := hq.2; omega⟩, by have := hq.1; omega, .inr (by have := hq.1; omega)⟩
  · exact (Kept.of_below hB03).trans (hK.less (fun k h => .inl h))

/-- What an act makes of both. -/
def DoesAs (N NR : Nat → Prop) (w : World) (A : Nat) (room room0 f : Int) (st st' : Nat → List Lt) (xs : List LX) (nl : Nat) (e : Ending) (w' : World) : Prop :=
  ∃ a' n' c' r, e = .returned (.tuple #[.agg #[.slice a' n' c', .int .i64 room0], .bool r]) ∧ Fin N NR w A room st' a' n' c' nl w' (fun xs' => (∀ x ∈ xs', x.ok) ∧ (room0 = room → Tie st xs → r = true ∧ Tie st' xs'))

theorem Tie.congr {st st' : Nat → List Lt} {xs : List LX} (h : Tie st xs) (he : ∀ i, i < 17 → st' i = st i) : Tie st' xs := ⟨fun i hi => (he i hi).trans (h.1 i hi), h.2⟩
theorem Tie.same {st : Nat → List Lt} {xs : List LX} (h : Tie st xs) {room k f : Int} {t : Nat} {bs : List Int} {i : Int} {pl : Nat} {z : Int} (hs : t < 17 → stepL room k f t (st t) bs i pl z = st t) : Tie (upd st t (stepL room k f t (st t) bs i pl z)) xs := by
  refine h.congr (fun j hj => ?_)
  by_cases e : j = t
  · subst e; rw [upd_same]; exact hs hj
  · exact upd_other _ _ e
theorem Found.at {xs : List LX} {t : Nat} {i : Int} {k : Nat} {x : LX} (hF : Found xs t i k x) : (toEnd t xs)[(toEnd t (xs.take k)).length]? = some x := by
  rw [toEnd_parts t xs k x hF.2.1 hF.2.2.1, List.getElem?_append_right (Nat.le_refl _), Nat.sub_self]; rfl
theorem Tie.at {st : Nat → List Lt} {xs : List LX} (h : Tie st xs) {t : Nat} {i : Int} {k : Nat} {x : LX} (hF : Found xs t i k x) : (st t)[(toEnd t (xs.take k)).length]? = some x.lt := by
  rw [h.1 t hF.1, List.getElem?_map, hF.at]; rfl
/-- Both look at the same letter. -/
theorem Tie.one {st : Nat → List Lt} {xs : List LX} (h : Tie st xs) {t : Nat} {i : Int} {k n : Nat} {x : LX} {y : Lt} (hF : Found xs t i k x) (hi : i = n) (hy : (st t)[n]? = some y) : n = (toEnd t (xs.take k)).length ∧ y = x.lt := by
  have e : n = (toEnd t (xs.take k)).length := by have := hF.2.2.2; omega
  refine ⟨e, ?_⟩
  have := h.at hF
  rw [← e, hy] at this
  exact Option.some.inj this
theorem Tie.notout {st : Nat → List Lt} {xs : List LX} (h : Tie st xs) {t : Nat} {i : Int} {k : Nat} {x : LX} (hF : Found xs t i k x) (ho : t < 17 → i < 0 ∨ ((st t).length : Int) ≤ i) : False := by
  have h1 := (List.getElem?_eq_some_iff.1 (h.at hF)).1
  have h2 := hF.2.2.2
  rcases ho hF.1 with h3 | h3 <;> omega
theorem Tie.notin {st : Nat → List Lt} {xs : List LX} (h : Tie st xs) {t : Nat} {i : Int} {n : Nat} {y : Lt} (ht : t < 17) (hi : i = n) (hy : (st t)[n]? = some y) (ho : t < 17 → i < 0 ∨ ((toEnd t xs).length : Int) ≤ i) : False := by
  have h1 := (List.getElem?_eq_some_iff.1 hy).1
  have h2 := h.len ht
  rcases ho ht with h3 | h3 <;> omega

theorem sendK_ok {x : LX} (hx : x.ok) (room : Int) (xs : List LX) : sendK room xs x = if room ≤ ((toEnd x.lv.t xs).length : Int) then 6 else 0 := by
  obtain ⟨h1, h2, h3, h4, h5⟩ := hx
  unfold sendK
  rw [if_neg (by omega), if_neg (by omega)]

theorem does_again_is (N NR : Nat → Prop) (hNR : ∀ q, NR q → N q) (A : Nat) (al : Option Addr) (nl cl : Nat) (room room0 : Int) (k f : Int) (t : Nat) (a : Option Addr) (m d : Nat) (bs : List Int) (i : Int) (pl : Nat) (z : Int) (w : World) (st : Nat → List Lt) (xs : List LX) (hk : k.tmod 6 = 4)
    (h : AirHi N w A room st) (hg : Good st) (hR : RLN NR w al nl cl xs) (hok : ∀ x ∈ xs, x.ok) (hcap : nl ≤ 10000) (ht2 : t ≤ 255) :
    Calls Try.prog 15 #[.pointer (some ⟨A, 0, none⟩), .agg #[.slice al nl cl, .int .i64 room0], actV k f t a m d i pl z] w (DoesAs N NR w A room room0 f st (upd st t (stepL room k f t (st t) bs i pl z)) xs nl) := by
  have hN := h.lt
  refine (does_again A al nl cl room0 k f t a m d i pl z w hk (fun w1 v kr kp w4 => Aft N NR w A room (upd st t (stepL room k f t (st t) bs i pl z)) v nl w4 (fun xs' => (∀ x ∈ xs', x.ok) ∧ (room0 = room → Tie st xs → (kp == kr) = true ∧ Tie (upd st t (stepL room k f t (st t) bs i pl z)) xs'))) ?_).mono ?_
  · intro w1 hB hl
    refine (ref_again (hR.below hB) (fun q hq => Nat.lt_of_lt_of_le (hN q (hNR q hq)) hB.size) room0 i t hcap).mono ?_
    rintro e w2 ⟨kr, xs', ⟨a', n', c', rfl, hR', hB2⟩, hsp⟩
    refine ⟨a', n', c', kr, rfl, hB2, fun w3 hB3 => ?_⟩
    have h1 := hB.size
    have h2 := hB2.size
    have h3 := hB3.size
    have hB03 : Below w.heap.size w w3 := (hB.trans (hB2.mono h1)).trans (hB3.mono (by omega))
    refine (prog_again k f t bs i pl z hk (h.add hB03 (Mid w w3) (fun q hq => hq)) hg ht2).mono ?_
    rintro e w4 ⟨kp, rfl, hA, hK, hps⟩
    refine ⟨kp, rfl, hK.less (fun q hq => .inr hq), Aft.of hN hNR hB hl hR' hB2 hB3 hA hK ?_ ⟨?_, ?_⟩⟩
    · rw [← hR'.1.1, ← hR.1.1]
      rcases hsp with ⟨_, _, rfl⟩ | ⟨k', x, hF, _, rfl⟩
      · omega
      · unfold sendX; split <;> simp
    · rcases hsp with ⟨_, _, rfl⟩ | ⟨k', x, hF, _, rfl⟩
      · exact hok
      · unfold sendX
        split
        · intro y hy
          rcases List.mem_append.1 hy with hy | hy
          · exact hok y hy
          · obtain rfl := List.mem_singleton.1 hy; exact hok y (List.mem_of_getElem? hF.2.1)
        · exact hok
    · rintro rfl hT
      rcases hsp with ⟨ho, rfl, rfl⟩ | ⟨k', x, hF, rfl, rfl⟩
      · rcases hps with ⟨ho', rfl⟩ | ⟨n, y, ht, hi, hy, rfl⟩
        · exact ⟨by simp, hT.same (fun ht => step_out _ _ _ _ _ _ _ _ _ (.inr (.inl hk)) (ho' ht))⟩
        · exact (hT.notin ht hi hy ho).elim
      · rcases hps with ⟨ho', rfl⟩ | ⟨n, y, ht, hi, hy, rfl⟩
        · exact (hT.notout hF ho').elim
        · obtain ⟨e1, rfl⟩ := hT.one hF hi hy
          have hx := hok x (List.mem_of_getElem? hF.2.1)
          have hl := hT.len ht
          have hst : stepL room0 k f t (st t) bs i pl z = if room0 ≤ ((st t).length : Int) then st t else st t ++ [x.lt] := by
            unfold stepL
            rw [if_neg (by omega), if_pos hk, hi, Int.toNat_natCast, hy]
            by_cases hr : room0 ≤ ((st t).length : Int)
            · rw [if_neg (by omega), if_pos hr]
            · rw [if_pos (by omega), if_neg hr]; rfl
          rw [hst]
          unfold sendX
          rw [sendK_ok hx, hF.2.2.1, hl]
          by_cases hr : room0 ≤ ((toEnd t xs).length : Int)
          · rw [if_pos hr, if_pos hr, if_neg (by decide), upd_id st t _ rfl]
            exact ⟨by simp, hT⟩
          · rw [if_neg hr, if_neg hr, if_pos rfl]
            exact ⟨by simp, hT.push hF.2.2.1 hx⟩
  · rintro e w' ⟨a', n', c', kr, kp, w1, w4, rfl, hl, hA, hU⟩
    exact ⟨a', n', c', _, rfl, hA.fin hN hU⟩

theorem does_turn_is (N NR : Nat → Prop) (hNR : ∀ q, NR q → N q) (A : Nat) (al : Option Addr) (nl cl : Nat) (room room0 : Int) (k f : Int) (t : Nat) (a : Option Addr) (m d : Nat) (bs : List Int) (i : Int) (pl : Nat) (z : Int) (w : World) (st : Nat → List Lt) (xs : List LX) (hk : k.tmod 6 = 5)
    (h : AirHi N w A room st) (hg : Good st) (hR : RLN NR w al nl cl xs) (hok : ∀ x ∈ xs, x.ok) (hcap : nl ≤ 10000) (ht2 : t ≤ 255) (hpl : pl < 65536) :
    Calls Try.prog 15 #[.pointer (some ⟨A, 0, none⟩), .agg #[.slice al nl cl, .int .i64 room0], actV k f t a m d i pl z] w (DoesAs N NR w A room room0 f st (upd st t (stepL room k f t (st t) bs i pl z)) xs nl) := by
  have hN := h.lt
  refine (does_turn A al nl cl room0 k f t a m d i pl z w hk (fun w1 v kr kp w4 => Aft N NR w A room (upd st t (stepL room k f t (st t) bs i pl z)) v nl w4 (fun xs' => (∀ x ∈ xs', x.ok) ∧ (room0 = room → Tie st xs → (kp == kr) = true ∧ Tie (upd st t (stepL room k f t (st t) bs i pl z)) xs'))) ?_).mono ?_
  · intro w1 hB hl
    refine (ref_turn (hR.below hB) (fun q hq => Nat.lt_of_lt_of_le (hN q (hNR q hq)) hB.size) hok room0 i t pl z hpl hcap).mono ?_
    rintro e w2 ⟨kr, xs', ⟨a', n', c', rfl, hR', hB2⟩, hsp⟩
    refine ⟨a', n', c', kr, rfl, hB2, fun w3 hB3 => ?_⟩
    have h1 := hB.size
    have h2 := hB2.size
    have h3 := hB3.size
    have hB03 : Below w.heap.size w w3 := (hB.trans (hB2.mono h1)).trans (hB3.mono (by omega))
    refine (prog_turn k f t bs i pl z hk (h.add hB03 (Mid w w3) (fun q hq => hq)) hg ht2 hpl).mono ?_
    rintro e w4 ⟨kp, rfl, hA, hK, hps⟩
    have tok : ∀ k' x, Found xs t i k' x → ∀ a d, (x.turned a d pl z).ok := by
      intro k' x hF a d
      obtain ⟨o1, o2, o3, o4, o5⟩ := hok x (List.mem_of_getElem? hF.2.1)
      exact ⟨o1, o2, o3, o4, by simp [LX.turned, o5]⟩
    refine ⟨kp, rfl, hK.less (fun q hq => .inr hq), Aft.of hN hNR hB hl hR' hB2 hB3 hA hK ?_ ⟨?_, ?_⟩⟩
    · rw [← hR'.1.1, ← hR.1.1]
      rcases hsp with ⟨_, _, rfl⟩ | ⟨k', x, hF, ⟨_, _, rfl⟩ | ⟨_, _, a2, d2, rfl⟩⟩
      · omega
      · omega
      · rw [List.length_set]; omega
    · rcases hsp with ⟨_, _, rfl⟩ | ⟨k', x, hF, ⟨_, _, rfl⟩ | ⟨_, _, a2, d2, rfl⟩⟩
      · exact hok
      · exact hok
      · intro y hy
        rcases List.mem_or_eq_of_mem_set hy with hy | rfl
        · exact hok y hy
        · exact tok k' x hF a2 d2
    · rintro rfl hT
      rcases hsp with ⟨ho, rfl, rfl⟩ | ⟨k', x, hF, hsp⟩
      · rcases hps with ⟨ho', rfl⟩ | ⟨n, y, ht, hi, hy, rfl⟩
        · exact ⟨by simp, hT.same (fun ht => step_out _ _ _ _ _ _ _ _ _ (.inr (.inr hk)) (ho' ht))⟩
        · exact (hT.notin ht hi hy ho).elim
      · rcases hps with ⟨ho', rfl⟩ | ⟨n, y, ht, hi, hy, rfl⟩
        · exact (hT.notout hF ho').elim
        · obtain ⟨e1, rfl⟩ := hT.one hF hi hy
          have hst : stepL room0 k f t (st t) bs i pl z = if x.bs = [] then st t else (st t).set n (x.lt.turn pl z) := by
            unfold stepL
            rw [if_neg (by omega), if_neg (by omega), if_pos hk, if_pos (by omega), hi, Int.toNat_natCast]
            unfold turnAt
            rw [hy]
            rfl
          rw [hst]
          show ((if x.bs = [] then (7 : Int) else 0) == kr) = true ∧ _
          rcases hsp with ⟨hb, rfl, rfl⟩ | ⟨hb, rfl, a2, d2, rfl⟩
          · rw [if_pos hb, if_pos hb, upd_id st t _ rfl]
            exact ⟨by simp, hT⟩
          · rw [if_neg hb, if_neg hb, e1]
            exact ⟨by simp, hT.set (y := x.turned a2 d2 pl z) hF.2.1 hF.2.2.1 hF.2.2.1 (tok k' x hF a2 d2)⟩
  · rintro e w' ⟨a', n', c', kr, kp, w1, w4, rfl, hl, hA, hU⟩
    exact ⟨a', n', c', _, rfl, hA.fin hN hU⟩

theorem does_send_is (N NR : Nat → Prop) (hNR : ∀ q, NR q → N q) (A : Nat) (al : Option Addr) (nl cl : Nat) (room room0 : Int) (k f : Int) (t : Nat) (a : Option Addr) (m d : Nat) (bs : List Int) (i : Int) (pl : Nat) (z : Int) (w : World) (st : Nat → List Lt) (xs : List LX) (hk3 : k.tmod 6 ≠ 3) (hk4 : k.tmod 6 ≠ 4) (hk5 : k.tmod 6 ≠ 5)
    (h : AirHi N w A room st) (hR : RLN NR w al nl cl xs) (hok : ∀ x ∈ xs, x.ok) (hcap : nl ≤ 10000) (ht2 : t ≤ 255) (hbs : BR w a m d bs) (hbN : d ≠ 0 → ∀ g, (Value.slice a m d).ownBlock = some g → NR g) :
    Calls Try.prog 15 #[.pointer (some ⟨A, 0, none⟩), .agg #[.slice al nl cl, .int .i64 room0], actV k f t a m d i pl z] w (DoesAs N NR w A room room0 f st (upd st t (stepL room k f t (st t) bs i pl z)) xs nl) := by
  have hN := h.lt
  refine (does_send A al nl cl room0 k f t a m d i pl z w hk3 hk4 hk5 (fun w1 v kr kp w4 => Aft N NR w A room (upd st t (stepL room k f t (st t) bs i pl z)) v nl w4 (fun xs' => (∀ x ∈ xs', x.ok) ∧ (room0 = room → Tie st xs → (kp == kr) = true ∧ Tie (upd st t (stepL room k f t (st t) bs i pl z)) xs'))) ?_).mono ?_
  · intro w1 hB hl
    obtain ⟨x, hx⟩ : ∃ x : LX, x = ⟨⟨f, t, a, m, d⟩, bs⟩ := ⟨_, rfl⟩
    have hS := refSend NR room0 al nl cl xs x w1 (hR.below hB) (by rw [hx]; exact hbs.below hB) (by rw [hx]; exact hbN) hcap
    rw [hx] at hS
    refine hS.mono ?_
    rw [← hx]
    rintro e w2 ⟨a', n', c', rfl, hR', hB2⟩
    refine ⟨a', n', c', _, rfl, hB2, fun w3 hB3 => ?_⟩
    have h1 := hB.size
    have h2 := hB2.size
    have h3 := hB3.size
    have hB03 : Below w.heap.size w w3 := (hB.trans (hB2.mono h1)).trans (hB3.mono (by omega))
    refine (prog_send k f t a m d bs i pl z hk3 hk4 hk5 (h.add hB03 (Mid w w3) (fun q hq => hq)) (hbs.below hB03) ht2).mono ?_
    rintro e w4 ⟨kp, rfl, hA, hK, hps⟩
    have hlen := hbs.len
    have hxok : sendK room0 xs x = 0 → x.ok := by
      intro h0
      rw [hx] at h0 ⊢
      unfold sendK at h0
      simp only at h0
      split at h0
      · cases h0
      · split at h0
        · cases h0
        · exact ⟨by show (0 : Int) ≤ t; omega, by show (t : Int) < 17; omega, by show f < 17; omega, by show m ≤ 4000; omega, hlen⟩
    refine ⟨kp, rfl, hK.less (fun q hq => .inr hq), Aft.of hN hNR hB hl hR' hB2 hB3 hA hK ?_ ⟨?_, ?_⟩⟩
    · rw [← hR'.1.1, ← hR.1.1]
      unfold sendX; split <;> simp
    · unfold sendX
      split
      · rename_i h0
        intro y hy
        rcases List.mem_append.1 hy with hy | hy
        · exact hok y hy
        · obtain rfl := List.mem_singleton.1 hy; exact hxok h0
      · exact hok
    · rintro rfl hT
      have hkk : sendK room0 xs x = kp ∨ ¬ t < 17 := by
        by_cases ht : t < 17
        · left
          rw [hps, hx]
          unfold sendK
          simp only
          rw [hT.len ht]
        · exact .inr ht
      have hst : stepL room0 k f t (st t) bs i pl z = if f < 17 ∧ bs.length ≤ 4000 ∧ ((st t).length : Int) < room0 then st t ++ [⟨f, t, bs⟩] else st t := by
        unfold stepL
        rw [if_neg hk3, if_neg hk4, if_neg hk5]
      by_cases ht : t < 17
      · have e := hkk.resolve_right (fun h => h ht)
        refine ⟨by rw [e]; simp, ?_⟩
        unfold sendX
        by_cases h0 : sendK room0 xs x = 0
        · rw [if_pos h0]
          have ho := hxok h0
          have hp := hps
          rw [← e, h0] at hp
          have hc : f < 17 ∧ bs.length ≤ 4000 ∧ ((st t).length : Int) < room0 := by
            split at hp
            · cases hp
            · split at hp
              · cases hp
              · split at hp
                · cases hp
                · omega
          rw [hst, if_pos hc]
          have := hT.push (t := t) (x := x) (by rw [hx]) ho
          rw [hx] at this ⊢
          exact this
        · rw [if_neg h0]
          refine hT.same (fun _ => ?_)
          have hp := hps
          rw [← e] at hp
          rw [hst, if_neg]
          intro hc
          apply h0
          rw [hp, if_neg (by omega), if_neg (by omega), if_neg (by omega)]
      · have e1 : sendK room0 xs x = 2 := by rw [hx]; exact if_pos (.inr (by show (17 : Int) ≤ t; omega))
        have e2 : kp = 2 := by rw [hps]; exact if_pos (.inr (by omega))
        refine ⟨by rw [e1, e2]; rfl, ?_⟩
        unfold sendX
        rw [e1, if_neg (by decide)]
        exact hT.same (fun h => absurd h ht)
  · rintro e w' ⟨a', n', c', kr, kp, w1, w4, rfl, hl, hA, hU⟩
    exact ⟨a', n', c', _, rfl, hA.fin hN hU⟩

end Go.Proofs.Ytehgbpepaakanaa
