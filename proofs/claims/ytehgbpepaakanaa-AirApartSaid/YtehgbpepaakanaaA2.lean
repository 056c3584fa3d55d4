/-
  The law of air: what a call makes of the air's letters; the reference's calls, whole.
-/
import Derived.Test.YtehgbpepaakanaaA1
namespace Go.Proofs.Ytehgbpepaakanaa
open Go.RowKit Go.Joins
set_option linter.unusedVariables false
set_option linter.unusedSimpArgs false

def turnAt (l : List Lt) (n : Nat) (pl : Nat) (z : Int) : List Lt := match l[n]? with
  | some y => if y.bs = [] then l else l.set n (y.turn pl z)
  | none => l
/-- What a call makes of the letters to its end. -/
def stepL (room k f : Int) (t : Nat) (l : List Lt) (bs : List Int) (i : Int) (pl : Nat) (z : Int) : List Lt :=
  if k.tmod 6 = 3 then (if 0 ≤ i then l.eraseIdx i.toNat else l)
  else if k.tmod 6 = 4 then (if 0 ≤ i ∧ (l.length : Int) < room then l ++ l[i.toNat]?.toList else l)
  else if k.tmod 6 = 5 then (if 0 ≤ i then turnAt l i.toNat pl z else l)
  else if f < 17 ∧ bs.length ≤ 4000 ∧ (l.length : Int) < room then l ++ [⟨f, t, bs⟩] else l

/-- All letters under way may be. -/
def Good (st : Nat → List Lt) : Prop := ∀ i, i < 17 → ∀ x ∈ st i, x.bs.length ≤ 4000
theorem Lt.turn_len (x : Lt) (pl : Nat) (z : Int) : (x.turn pl z).bs.length = x.bs.length := by simp [Lt.turn]
theorem Good.step {st : Nat → List Lt} (h : Good st) (room k f : Int) (t : Nat) (bs : List Int) (i : Int) (pl : Nat) (z : Int) : Good (upd st t (stepL room k f t (st t) bs i pl z)) := by
  intro j hj x hx
  by_cases e : j = t
  · subst e
    rw [upd_same] at hx
    have hg := h j hj
    unfold stepL at hx
    split at hx
    · split at hx
      · exact hg x (List.mem_of_mem_eraseIdx hx)
      · exact hg x hx
    · split at hx
      · split at hx
        · rcases List.mem_append.1 hx with hx | hx
          · exact hg x hx
          · rw [Option.mem_toList] at hx
            exact hg x (List.mem_of_getElem? hx)
        · exact hg x hx
      · split at hx
        · split at hx
          · unfold turnAt at hx
            split at hx
            · rename_i y hy
              split at hx
              · exact hg x hx
              · rcases List.mem_or_eq_of_mem_set hx with hx | rfl
                · exact hg x hx
                · rw [Lt.turn_len]; exact hg y (List.mem_of_getElem? hy)
            · exact hg x hx
          · exact hg x hx
        · split at hx
          · rename_i hc
            rcases List.mem_append.1 hx with hx | hx
            · exact hg x hx
            · obtain rfl := List.mem_singleton.1 hx; exact hc.2.1
          · exact hg x hx
  · rw [upd_other _ _ e] at hx; exact h j hj x hx

theorem AirHi.congr {N : Nat → Prop} {w : World} {A : Nat} {room : Int} {st st' : Nat → List Lt} (h : AirHi N w A room st) (he : ∀ i, i < 17 → st' i = st i) : AirHi N w A room st' := by
  obtain ⟨P, ⟨b, v, L, h1, h2, h3⟩, h4⟩ := h
  exact ⟨P, ⟨b, v, L, h1, h2, fun i hi => (he i hi).trans (h3 i hi)⟩, h4⟩
theorem upd_id (st : Nat → List Lt) (t : Nat) (l : List Lt) (h : l = st t) : upd st t l = st := by
  funext j
  by_cases e : j = t
  · subst e; rw [upd_same, h]
  · rw [upd_other _ _ e]
/-- Out of range: nothing is another. -/
theorem step_out (room k f : Int) (t : Nat) (l : List Lt) (bs : List Int) (i : Int) (pl : Nat) (z : Int) (hk : k.tmod 6 = 3 ∨ k.tmod 6 = 4 ∨ k.tmod 6 = 5) (hi : i < 0 ∨ (l.length : Int) ≤ i) : stepL room k f t l bs i pl z = l := by
  have hn : 0 ≤ i → l.length ≤ i.toNat := by intro h; omega
  unfold stepL
  rcases hk with e | e | e
  · rw [if_pos e]
    split
    · rename_i h; exact List.eraseIdx_of_length_le (hn h)
    · rfl
  · rw [if_neg (by omega), if_pos e]
    split
    · rename_i h; rw [List.getElem?_eq_none (hn h.1)]; simp
    · rfl
  · rw [if_neg (by omega), if_neg (by omega), if_pos e]
    split
    · rename_i h; unfold turnAt; rw [List.getElem?_eq_none (hn h)]
    · rfl

section
variable {N : Nat → Prop} {w : World} {A : Nat} {room : Int} {st : Nat → List Lt}
theorem AirHi.out (h : AirHi N w A room st) (k f : Int) (t : Nat) (bs : List Int) (i : Int) (pl : Nat) (z : Int) (hk : k.tmod 6 = 3 ∨ k.tmod 6 = 4 ∨ k.tmod 6 = 5) (hi : t < 17 → i < 0 ∨ ((st t).length : Int) ≤ i) : AirHi N w A room (upd st t (stepL room k f t (st t) bs i pl z)) := by
  refine h.congr (fun j hj => ?_)
  by_cases e : j = t
  · subst e; rw [upd_same]; exact step_out _ _ _ _ _ _ _ _ _ hk (hi hj)
  · rw [upd_other _ _ e]

/-- In range, or not. -/
theorem range_or (l : List Lt) (t : Nat) (i : Int) : (t < 17 → i < 0 ∨ (l.length : Int) ≤ i) ∨ ∃ (n : Nat) (y : Lt), t < 17 ∧ i = n ∧ l[n]? = some y := by
  by_cases ht : t < 17
  · by_cases hi : i < 0 ∨ (l.length : Int) ≤ i
    · exact .inl (fun _ => hi)
    · refine .inr ⟨i.toNat, l[i.toNat]'(by omega), ht, by omega, List.getElem?_eq_getElem _⟩
  · exact .inl (fun h => absurd h ht)

theorem prog_take (k f : Int) (t : Nat) (bs : List Int) (i : Int) (pl : Nat) (z : Int) (hk : k.tmod 6 = 3) (h : AirHi N w A room st) (ht2 : t ≤ 255) :
    Calls Try.prog 12 #[.pointer (some ⟨A, 0, none⟩), .int .u8 t, .int .i64 i] w fun e w' => ∃ f1 t1 a1 m1 d1 bs1 kp, e = .returned (.tuple #[.agg #[.int .u8 f1, .int .u8 t1, .slice a1 m1 d1], .int .i64 kp]) ∧ BR w' a1 m1 d1 bs1 ∧
      AirHi (fun k => N k ∨ (Value.slice a1 m1 d1).ownBlock = some k) w' A room (upd st t (stepL room k f t (st t) bs i pl z)) ∧ Kept N w w' ∧
      (((t < 17 → i < 0 ∨ ((st t).length : Int) ≤ i) ∧ kp = (if t < 17 then 7 else 2) ∧ f1 = 0 ∧ t1 = 0 ∧ bs1 = []) ∨ ∃ (n : Nat) (y : Lt), t < 17 ∧ i = n ∧ (st t)[n]? = some y ∧ kp = 0 ∧ f1 = y.f ∧ t1 = y.t ∧ bs1 = y.bs) := by
  rcases range_or (st t) t i with hi | ⟨n, y, ht, rfl, hy⟩
  · refine (take_err_hi t i h ht2 hi).mono ?_
    rintro e w' ⟨rfl, hA, hK⟩
    refine ⟨0, 0, none, 0, 0, [], _, rfl, .inl ⟨rfl, rfl, rfl⟩, ?_, hK, .inl ⟨hi, rfl, rfl, rfl, rfl⟩⟩
    refine AirHi.less (N := N) (hA.out k f t bs i pl z (.inl hk) hi) ?_
    rintro q (hq | hq)
    · exact hq
    · simp [Value.ownBlock] at hq
  · refine (take_hi t n y h ht hy).mono ?_
    rintro e w' ⟨a, m, d, rfl, hS, hA, hK⟩
    have e : stepL room k f t (st t) bs n pl z = (st t).eraseIdx n := by simp [stepL, hk]
    rw [e]
    exact ⟨y.f, y.t, a, m, d, y.bs, 0, rfl, hS.readS, hA, hK, .inr ⟨n, y, ht, rfl, hy, rfl, rfl, rfl, rfl⟩⟩

theorem prog_again (k f : Int) (t : Nat) (bs : List Int) (i : Int) (pl : Nat) (z : Int) (hk : k.tmod 6 = 4) (h : AirHi N w A room st) (hg : Good st) (ht2 : t ≤ 255) :
    Calls Try.prog 18 #[.pointer (some ⟨A, 0, none⟩), .int .u8 t, .int .i64 i] w fun e w' => ∃ kp, e = .returned (.int .i64 kp) ∧ AirHi N w' A room (upd st t (stepL room k f t (st t) bs i pl z)) ∧ Kept N w w' ∧
      (((t < 17 → i < 0 ∨ ((st t).length : Int) ≤ i) ∧ kp = (if t < 17 then 7 else 2)) ∨ ∃ (n : Nat) (y : Lt), t < 17 ∧ i = n ∧ (st t)[n]? = some y ∧ kp = (if room ≤ ((st t).length : Int) then 6 else 0)) := by
  rcases range_or (st t) t i with hi | ⟨n, y, ht, rfl, hy⟩
  · refine (again_err_hi t i h ht2 hi).mono ?_
    rintro e w' ⟨rfl, hA, hK⟩
    exact ⟨_, rfl, hA.out k f t bs i pl z (.inr (.inl hk)) hi, hK, .inl ⟨hi, rfl⟩⟩
  · have hm := hg t ht y (List.mem_of_getElem? hy)
    by_cases hf : room ≤ ((st t).length : Int)
    · refine (again_full_hi t n y h ht hy hm hf).mono ?_
      rintro e w' ⟨rfl, hA, hK⟩
      have e : stepL room k f t (st t) bs n pl z = st t := by
        unfold stepL
        rw [if_neg (by omega), if_pos hk, if_neg (by omega)]
      rw [e, upd_id st t _ rfl]
      exact ⟨_, rfl, hA, hK, .inr ⟨n, y, ht, rfl, hy, by rw [if_pos hf]⟩⟩
    · refine (again_hi t n y h ht hy hm (by omega)).mono ?_
      rintro e w' ⟨rfl, hA, hK⟩
      have e : stepL room k f t (st t) bs n pl z = st t ++ [y] := by
        unfold stepL
        rw [if_neg (by omega), if_pos hk, if_pos (by omega), Int.toNat_natCast, hy]
        rfl
      rw [e]
      exact ⟨_, rfl, hA, hK, .inr ⟨n, y, ht, rfl, hy, by rw [if_neg hf]⟩⟩

theorem prog_turn (k f : Int) (t : Nat) (bs : List Int) (i : Int) (pl : Nat) (z : Int) (hk : k.tmod 6 = 5) (h : AirHi N w A room st) (hg : Good st) (ht2 : t ≤ 255) (hpl : pl < 65536) :
    Calls Try.prog 19 #[.pointer (some ⟨A, 0, none⟩), .int .u8 t, .int .i64 i, .int .u16 pl, .int .u8 z] w fun e w' => ∃ kp, e = .returned (.int .i64 kp) ∧ AirHi N w' A room (upd st t (stepL room k f t (st t) bs i pl z)) ∧ Kept N w w' ∧
      (((t < 17 → i < 0 ∨ ((st t).length : Int) ≤ i) ∧ kp = (if t < 17 then 7 else 2)) ∨ ∃ (n : Nat) (y : Lt), t < 17 ∧ i = n ∧ (st t)[n]? = some y ∧ kp = (if y.bs = [] then 7 else 0)) := by
  rcases range_or (st t) t i with hi | ⟨n, y, ht, rfl, hy⟩
  · refine (turn_err_hi t i pl z h ht2 hi).mono ?_
    rintro e w' ⟨rfl, hA, hK⟩
    exact ⟨_, rfl, hA.out k f t bs i pl z (.inr (.inr hk)) hi, hK, .inl ⟨hi, rfl⟩⟩
  · have hm := hg t ht y (List.mem_of_getElem? hy)
    have hs : stepL room k f t (st t) bs n pl z = if y.bs = [] then st t else (st t).set n (y.turn pl z) := by
      unfold stepL
      rw [if_neg (by omega), if_neg (by omega), if_pos hk, if_pos (by omega), Int.toNat_natCast]
      unfold turnAt
      rw [hy]
    by_cases hb : y.bs = []
    · refine (turn_none_hi t n y pl z h ht hy hb).mono ?_
      rintro e w' ⟨rfl, hA, hK⟩
      rw [hs, if_pos hb, upd_id st t _ rfl]
      exact ⟨_, rfl, hA, hK, .inr ⟨n, y, ht, rfl, hy, by rw [if_pos hb]⟩⟩
    · refine (turn_hi t n y pl z h ht hy hb hm hpl).mono ?_
      rintro e w' ⟨rfl, hA, hK⟩
      rw [hs, if_neg hb]
      exact ⟨_, rfl, hA, hK, .inr ⟨n, y, ht, rfl, hy, by rw [if_neg hb]⟩⟩

theorem prog_send (k f : Int) (t : Nat) (a : Option Addr) (m d : Nat) (bs : List Int) (i : Int) (pl : Nat) (z : Int) (hk3 : k.tmod 6 ≠ 3) (hk4 : k.tmod 6 ≠ 4) (hk5 : k.tmod 6 ≠ 5) (h : AirHi N w A room st) (hbs : BR w a m d bs) (ht2 : t ≤ 255) :
    Calls Try.prog 11 #[.pointer (some ⟨A, 0, none⟩), .agg #[.int .u8 f, .int .u8 t, .slice a m d]] w fun e w' => ∃ kp, e = .returned (.int .i64 kp) ∧ AirHi N w' A room (upd st t (stepL room k f t (st t) bs i pl z)) ∧ Kept N w w' ∧
      kp = (if 17 ≤ f ∨ 17 ≤ (t : Int) then 2 else if 4000 < m then 3 else if room ≤ ((st t).length : Int) then 6 else 0) := by
  have hlen := hbs.len
  have hs : stepL room k f t (st t) bs i pl z = if f < 17 ∧ bs.length ≤ 4000 ∧ ((st t).length : Int) < room then st t ++ [⟨f, t, bs⟩] else st t := by
    unfold stepL
    rw [if_neg hk3, if_neg hk4, if_neg hk5]
  by_cases ht : t < 17
  · by_cases hf : 17 ≤ f
    · refine (send_from_hi f t a m d h ht hf).mono ?_
      rintro e w' ⟨rfl, hA, hK⟩
      rw [hs, if_neg (by omega), upd_id st t _ rfl]
      exact ⟨_, rfl, hA, hK, by rw [if_pos (.inl hf)]⟩
    · by_cases hm : 4000 < m
      · refine (send_big_hi f t a m d h ht (by omega) hm).mono ?_
        rintro e w' ⟨rfl, hA, hK⟩
        rw [hs, if_neg (by omega), upd_id st t _ rfl]
        exact ⟨_, rfl, hA, hK, by rw [if_neg (by omega), if_pos hm]⟩
      · by_cases hr : room ≤ ((st t).length : Int)
        · refine (send_full_hi f t a m d bs h ht (by omega) (by omega) hbs hr).mono ?_
          rintro e w' ⟨rfl, hA, hK⟩
          rw [hs, if_neg (by omega), upd_id st t _ rfl]
          exact ⟨_, rfl, hA, hK, by rw [if_neg (by omega), if_neg hm, if_pos hr]⟩
        · refine (send_hi f t a m d bs h ht (by omega) (by omega) hbs (by omega)).mono ?_
          rintro e w' ⟨rfl, hA, hK⟩
          rw [hs, if_pos (by omega)]
          exact ⟨_, rfl, hA, hK, by rw [if_neg (by omega), if_neg hm, if_neg hr]⟩
  · refine (send_arg_hi f t a m d h (by omega) ht2).mono ?_
    rintro e w' ⟨rfl, hA, hK⟩
    refine ⟨_, rfl, hA.congr (fun j hj => upd_other _ _ (by omega)), hK, by rw [if_pos (.inr (by omega))]⟩
end

end Go.Proofs.Ytehgbpepaakanaa
