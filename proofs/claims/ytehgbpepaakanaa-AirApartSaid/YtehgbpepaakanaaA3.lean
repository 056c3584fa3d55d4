/-
  The law of air: the reference's calls, whole; does.
-/
import Derived.Test.YtehgbpepaakanaaA2
namespace Go.Proofs.Ytehgbpepaakanaa
open Go.RowKit Go.Joins
set_option linter.unusedVariables false
set_option linter.unusedSimpArgs false

/-- A letter of xs at place i of those to t. -/
def Found (xs : List LX) (t : Nat) (i : Int) (k : Nat) (x : LX) : Prop := t < 17 ∧ xs[k]? = some x ∧ x.lv.t = t ∧ ((toEnd t (xs.take k)).length : Int) = i
theorem found_or (xs : List LX) (t : Nat) (i : Int) : (t < 17 → i < 0 ∨ ((toEnd t xs).length : Int) ≤ i) ∨ ∃ k x, Found xs t i k x := by
  by_cases ht : t < 17
  · by_cases hi : i < 0 ∨ ((toEnd t xs).length : Int) ≤ i
    · exact .inl (fun _ => hi)
    · obtain ⟨k, h1, h2, h3⟩ := toEnd_find t xs i.toNat ((toEnd t xs)[i.toNat]'(by omega)) (List.getElem?_eq_getElem _)
      exact .inr ⟨k, _, ht, h1, h2, by omega⟩
  · exact .inl (fun h => absurd h ht)

section
variable {N : Nat → Prop} {w : World} {al : Option Addr} {nl cl : Nat} {xs : List LX}
theorem RLN.takeErr (hR : RLN N w al nl cl xs) (room i : Int) (t : Nat) (hi : t < 17 → i < 0 ∨ ((toEnd t xs).length : Int) ≤ i) : TakeErr w al nl cl room t i (if t < 17 then 7 else 2) := by
  intro w1 hb
  by_cases ht : t < 17
  · rw [if_pos ht]; exact refTake_none room t i w1 (by omega) al nl cl xs (hR.1.below hb) (hi ht)
  · rw [if_neg ht]; exact refTake_arg room t i w1 (by omega) al nl cl xs (hR.1.below hb)

theorem ref_take (hR : RLN N w al nl cl xs) (room i : Int) (t : Nat) (hcap : nl ≤ 10000) :
    Calls Try.prog 27 #[.agg #[.slice al nl cl, .int .i64 room], .int .u8 t, .int .i64 i] w fun e w' => ∃ a' n' c' f2 t2 a2 m2 d2 bs2 kr xs', e = .returned (.tuple #[.agg #[.slice a' n' c', .int .i64 room], .agg #[.int .u8 f2, .int .u8 t2, .slice a2 m2 d2], .int .i64 kr]) ∧
      RLN (Nx N w w') w' a' n' c' xs' ∧ BR w' a2 m2 d2 bs2 ∧ Below w.heap.size w w' ∧ n' ≤ nl + 1 ∧
      (((t < 17 → i < 0 ∨ ((toEnd t xs).length : Int) ≤ i) ∧ kr = (if t < 17 then 7 else 2) ∧ xs' = xs ∧ f2 = 0 ∧ t2 = 0 ∧ bs2 = []) ∨ ∃ k x, Found xs t i k x ∧ kr = 0 ∧ xs' = xs.eraseIdx k ∧ f2 = x.lv.f ∧ t2 = x.lv.t ∧ bs2 = x.bs) := by
  rcases found_or xs t i with hi | ⟨k, x, hF⟩
  · refine (hR.takeErr room i t hi w (Below.refl _ w)).mono ?_
    rintro e w' ⟨rfl, hB⟩
    exact ⟨_, _, _, _, _, _, _, _, [], _, xs, rfl, (hR.below hB).mono (fun q h => .inl h), .inl ⟨rfl, rfl, rfl⟩, hB, by omega, .inl ⟨hi, rfl, rfl, rfl, rfl, rfl⟩⟩
  · obtain ⟨ht, h1, h2, h3⟩ := id hF
    refine (refTake_ok room t i w (by omega) al nl cl xs hR.1 k x h1 h2 h3 hcap).mono ?_
    rintro e w' ⟨a', n', c', rfl, hR', hF', hB⟩
    refine ⟨_, _, _, _, _, _, _, _, x.bs, _, xs.eraseIdx k, rfl, ⟨hR', fun p hp => ?_, fun y hy hd g hg => .inl (hR.2.2 y (List.mem_of_mem_eraseIdx hy) hd g hg)⟩, (hR.1.2.2.2.1 x (List.mem_of_getElem? h1)).below hB, hB, ?_, .inr ⟨k, x, hF, rfl, rfl, rfl, rfl, rfl⟩⟩
    · exact .inr (hF' p hp)
    · have := hR'.1
      have h4 := hR.1.1
      rw [← this, List.length_eraseIdx]
      split <;> omega

theorem ref_again (hR : RLN N w al nl cl xs) (hN : ∀ k, N k → k < w.heap.size) (room i : Int) (t : Nat) (hcap : nl ≤ 10000) :
    Calls Try.prog 28 #[.agg #[.slice al nl cl, .int .i64 room], .int .u8 t, .int .i64 i] w fun e w' => ∃ kr xs', RO N w room kr xs' e w' ∧
      (((t < 17 → i < 0 ∨ ((toEnd t xs).length : Int) ≤ i) ∧ kr = (if t < 17 then 7 else 2) ∧ xs' = xs) ∨ ∃ k x, Found xs t i k x ∧ kr = sendK room xs x ∧ xs' = sendX room xs x) := by
  rcases found_or xs t i with hi | ⟨k, x, hF⟩
  · refine (refAgain_err room t i _ w (errne t) al nl cl (hR.takeErr room i t hi)).mono ?_
    rintro e w' ⟨rfl, hB⟩
    exact ⟨_, xs, ⟨_, _, _, rfl, (hR.below hB).mono (fun q h => .inl h), hB⟩, .inl ⟨hi, rfl, rfl⟩⟩
  · obtain ⟨ht, h1, h2, h3⟩ := id hF
    refine (refAgain_ok N room t i w hN (by omega) al nl cl xs hR k x h1 h2 h3 hcap).mono ?_
    intro e w' h
    exact ⟨_, _, h, .inr ⟨k, x, hF, rfl, rfl⟩⟩

theorem ref_turn (hR : RLN N w al nl cl xs) (hN : ∀ k, N k → k < w.heap.size) (hok : ∀ x ∈ xs, x.ok) (room i : Int) (t pl : Nat) (z : Int) (hpl : pl < 65536) (hcap : nl ≤ 10000) :
    Calls Try.prog 29 #[.agg #[.slice al nl cl, .int .i64 room], .int .u8 t, .int .i64 i, .int .u16 pl, .int .u8 z] w fun e w' => ∃ kr xs', RO N w room kr xs' e w' ∧
      (((t < 17 → i < 0 ∨ ((toEnd t xs).length : Int) ≤ i) ∧ kr = (if t < 17 then 7 else 2) ∧ xs' = xs) ∨ ∃ k x, Found xs t i k x ∧ ((x.bs = [] ∧ kr = 7 ∧ xs' = xs) ∨ (x.bs ≠ [] ∧ kr = 0 ∧ ∃ a d, xs' = xs.set k (x.turned a d pl z)))) := by
  rcases found_or xs t i with hi | ⟨k, x, hF⟩
  · refine (refTurn_err room t i _ pl z w (errne t) al nl cl (hR.takeErr room i t hi)).mono ?_
    rintro e w' ⟨rfl, hB⟩
    exact ⟨_, xs, ⟨_, _, _, rfl, (hR.below hB).mono (fun q h => .inl h), hB⟩, .inl ⟨hi, rfl, rfl⟩⟩
  · obtain ⟨ht, h1, h2, h3⟩ := id hF
    have ho := hok x (List.mem_of_getElem? h1)
    rw [← h2] at h3 ⊢
    by_cases hb : x.bs = []
    · have hm : x.lv.m = 0 := by have := ho.2.2.2.2; rw [hb] at this; exact this.symm
      refine (refTurn_empty N room i pl z w x ho.2.1 al nl cl xs hR k h1 hm h3 hcap).mono ?_
      rintro e w' ⟨rfl, hB⟩
      exact ⟨_, xs, ⟨_, _, _, rfl, (hR.below hB).mono (fun q h => .inl h), hB⟩, .inr ⟨k, x, hF, .inl ⟨hb, rfl, rfl⟩⟩⟩
    · have hm : 0 < x.lv.m := by rw [← ho.2.2.2.2]; exact List.length_pos_iff.2 hb
      refine (refTurn_ok N room i z pl w hN x ho.2.1 al nl cl xs hR k h1 hm ho.2.2.2.1 hpl h3 hcap).mono ?_
      rintro e w' ⟨a, d, h⟩
      exact ⟨_, _, h, .inr ⟨k, x, hF, .inr ⟨hb, rfl, a, d, rfl⟩⟩⟩
end

end Go.Proofs.Ytehgbpepaakanaa
