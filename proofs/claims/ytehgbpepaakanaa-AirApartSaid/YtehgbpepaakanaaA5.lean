/-
  The law of air: does, of a Take; does whole.
-/
import Derived.Test.YtehgbpepaakanaaA4
namespace Go.Proofs.Ytehgbpepaakanaa
open Go.RowKit Go.Joins
set_option linter.unusedVariables false
set_option linter.unusedSimpArgs false

theorem does_take_is (N NR : Nat → Prop) (hNR : ∀ q, NR q → N q) (A : Nat) (al : Option Addr) (nl cl : Nat) (room room0 : Int) (k f : Int) (t : Nat) (a : Option Addr) (m d : Nat) (bs : List Int) (i : Int) (pl : Nat) (z : Int) (w : World) (st : Nat → List Lt) (xs : List LX) (hk : k.tmod 6 = 3)
    (h : AirHi N w A room st) (hR : RLN NR w al nl cl xs) (hok : ∀ x ∈ xs, x.ok) (hcap : nl ≤ 10000) (ht2 : t ≤ 255) :
    Calls Try.prog 15 #[.pointer (some ⟨A, 0, none⟩), .agg #[.slice al nl cl, .int .i64 room0], actV k f t a m d i pl z] w (DoesAs N NR w A room room0 f st (upd st t (stepL room k f t (st t) bs i pl z)) xs nl) := by
  have hN := h.lt
  refine (does_take A al nl cl room0 k f t a m d i pl z w hk (fun w1 v r w4 => Aft N NR w A room (upd st t (stepL room k f t (st t) bs i pl z)) v nl w4 (fun xs' => (∀ x ∈ xs', x.ok) ∧ (room0 = room → Tie st xs → r = true ∧ Tie (upd st t (stepL room k f t (st t) bs i pl z)) xs'))) ?_).mono ?_
  · intro w1 hB hl
    refine (prog_take k f t bs i pl z hk (h.add hB (Mid w w1) (fun q hq => hq)) ht2).mono ?_
    rintro e w2 ⟨f1, t1, a1, m1, d1, bs1, kp, rfl, hb1, hA2, hK2, hps⟩
    refine ⟨f1, t1, a1, m1, d1, kp, rfl, hK2.less (fun q hq => .inr hq), fun w3 hB3 => ?_⟩
    have hR3 : RLN NR w3 al nl cl xs := ((hR.below hB).upd hK2 (fun q hq hn => hn (.inl (hNR q hq)))).below hB3
    refine (ref_take hR3 room0 i t hcap).mono ?_
    rintro e w4 ⟨a', n', c', f2, t2, a2, m2, d2, bs2, kr, xs', rfl, hR4, hb2, hB4, hn, hsp⟩
    obtain ⟨s, hs1, hs⟩ := refSame_any f1 t1 a1 m1 d1 bs1 f2 t2 a2 m2 d2 bs2
    refine ⟨a', n', c', f2, t2, a2, m2, d2, kr, rfl, hB4, s, fun w5 hB5 => ?_⟩
    have z1 := hB.size
    have z2 := hK2.size
    have z3 := hB3.size
    have z4 := hB4.size
    have z5 := hB5.size
    have hB25 : Below w2.heap.size w2 w5 := (hB3.trans (hB4.mono z3)).trans (hB5.mono (by omega))
    refine (hs w5 (hb1.below hB25) (hb2.below hB5)).mono ?_
    rintro e w6 ⟨rfl, hB6⟩
    have z6 := hB6.size
    have hB36 : Below w3.heap.size w3 w6 := (hB4.trans (hB5.mono z4)).trans (hB6.mono (by omega))
    have hB46 : Below w4.heap.size w4 w6 := hB5.trans (hB6.mono z5)
    have hB26 : Below w2.heap.size w2 w6 := hB25.trans (hB6.mono hB25.size)
    have hA6 := (hA2.below hB3).add hB36 (Mid w3 w6) (fun q hq => hq)
    refine ⟨rfl, hB6, _, Nx NR w3 w4, xs', a', n', c', rfl, fun q hq => .inl (.inl (.inl hq)), .inl (.inl (.inr ⟨by omega, hl⟩)), hA6, hR4.below hB46, ?_, fun q h => .inl h, ?_, hn, ?_, ?_⟩
    · rintro q (hq | hq)
      · exact ⟨.inl (.inl (.inl (hNR q hq))), by have := hN q (hNR q hq); omega, .inl hq⟩
      · exact ⟨.inr ⟨hq.1, by have := hq.2; omega⟩, by have := hq.1; omega, .inr (by have := hq.1; omega)⟩
    · exact ((Kept.of_below hB).trans (hK2.less (fun q hq => .inl hq))).trans (Kept.of_below hB26)
    · rcases hsp with ⟨_, _, rfl, _⟩ | ⟨k', x, hF, _, rfl, _⟩
      · exact hok
      · exact fun y hy => hok y (List.mem_of_mem_eraseIdx hy)
    · rintro rfl hT
      rcases hsp with ⟨ho, rfl, rfl, rfl, rfl, rfl⟩ | ⟨k', x, hF, rfl, rfl, rfl, rfl, rfl⟩
      · rcases hps with ⟨ho', rfl, rfl, rfl, rfl⟩ | ⟨n, y, ht, hi, hy, _⟩
        · exact ⟨by rw [hs1 rfl rfl rfl]; simp, hT.same (fun ht => step_out _ _ _ _ _ _ _ _ _ (.inl hk) (ho' ht))⟩
        · exact (hT.notin ht hi hy ho).elim
      · rcases hps with ⟨ho', _⟩ | ⟨n, y, ht, hi, hy, rfl, rfl, rfl, rfl⟩
        · exact (hT.notout hF ho').elim
        · obtain ⟨e1, rfl⟩ := hT.one hF hi hy
          have hst : stepL room0 k f t (st t) bs i pl z = (st t).eraseIdx (toEnd t (xs.take k')).length := by
            unfold stepL
            rw [if_pos hk, if_pos (by omega), hi, Int.toNat_natCast, e1]
          rw [hst]
          exact ⟨by rw [hs1 rfl rfl rfl]; simp, hT.erase hF.2.1 hF.2.2.1⟩
  · rintro e w' ⟨a', n', c', r, w1, w6, rfl, hl, hA, hU⟩
    exact ⟨a', n', c', _, rfl, hA.fin hN hU⟩

/-- does, of any act. -/
theorem does_is (N NR : Nat → Prop) (hNR : ∀ q, NR q → N q) (A : Nat) (al : Option Addr) (nl cl : Nat) (room room0 : Int) (k f : Int) (t : Nat) (a : Option Addr) (m d : Nat) (bs : List Int) (i : Int) (pl : Nat) (z : Int) (w : World) (st : Nat → List Lt) (xs : List LX)
    (h : AirHi N w A room st) (hg : Good st) (hR : RLN NR w al nl cl xs) (hok : ∀ x ∈ xs, x.ok) (hcap : nl ≤ 10000) (ht2 : t ≤ 255) (hpl : pl < 65536) (hbs : BR w a m d bs) (hbN : d ≠ 0 → ∀ g, (Value.slice a m d).ownBlock = some g → NR g) :
    Calls Try.prog 15 #[.pointer (some ⟨A, 0, none⟩), .agg #[.slice al nl cl, .int .i64 room0], actV k f t a m d i pl z] w (DoesAs N NR w A room room0 f st (upd st t (stepL room k f t (st t) bs i pl z)) xs nl) := by
  by_cases h3 : k.tmod 6 = 3
  · exact does_take_is N NR hNR A al nl cl room room0 k f t a m d bs i pl z w st xs h3 h hR hok hcap ht2
  · by_cases h4 : k.tmod 6 = 4
    · exact does_again_is N NR hNR A al nl cl room room0 k f t a m d bs i pl z w st xs h4 h hg hR hok hcap ht2
    · by_cases h5 : k.tmod 6 = 5
      · exact does_turn_is N NR hNR A al nl cl room room0 k f t a m d bs i pl z w st xs h5 h hg hR hok hcap ht2 hpl
      · exact does_send_is N NR hNR A al nl cl room room0 k f t a m d bs i pl z w st xs h3 h4 h5 h hR hok hcap ht2 hbs hbN

end Go.Proofs.Ytehgbpepaakanaa
