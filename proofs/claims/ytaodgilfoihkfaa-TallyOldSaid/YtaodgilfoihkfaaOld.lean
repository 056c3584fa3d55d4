/-
  TallyOld: the walk.
-/
import Derived.Test.YtaodgilfoihkfaaCalls
namespace Go.Proofs.Ytaodgilfoihkfaa
open Go.RowKit
set_option linter.unusedVariables false
set_option linter.unusedSimpArgs false

attribute [local go_sem ↓] ld22 ld23 ld25 ld30 st22 st23 st25 st30

theorem hear_old {t : Ta} {n : Nat} {ep : Int} (h : 8 ≤ n ∨ t.w n = false ∨ ep < t.e n) : ∃ e, e ≠ 0 ∧ t.hear n ep = (t, e) := by
  rcases hear_cases t n ep with h1 | ⟨_, _, h2, h3, _, _, h4⟩
  · exact h1
  · rcases h with h | h | h
    · omega
    · rw [h3] at h; cases h
    · omega
theorem does_old {t : Ta} {b : Bool} {n : Nat} {ep vote : Int} (h : 8 ≤ n ∨ t.w n = false ∨ ep < t.e n) : ∃ e, e ≠ 0 ∧ (Ac.mk b n ep vote).does t = (t, e) := by
  obtain ⟨e, he, hh⟩ := hear_old h
  cases b
  · unfold Ac.does Ta.put
    simp only [hh]
    split
    · rename_i hq; cases hq
    · split
      · exact ⟨2, by decide, rfl⟩
      · exact ⟨e, he, rfl⟩
  · exact ⟨e, he, by unfold Ac.does; exact hh⟩
theorem does_new {t : Ta} (hl : t.Len) {b : Bool} {n : Nat} {ep vote : Int} (h : ((Ac.mk b n ep vote).does t).2 = 0) : ((Ac.mk b n ep vote).does t).1.e n = ep := by
  rcases hear_cases t n ep with ⟨e, he, hh⟩ | ⟨hh, _, h2, h3, _, _, h4⟩
  · cases b
    · unfold Ac.does Ta.put at h ⊢
      simp only [hh] at h ⊢
      split at h
      · rename_i hq; cases hq
      · split at h
        · cases h
        · exact absurd h he
    · unfold Ac.does at h
      simp only [hh, if_true] at h
      exact absurd h he
  · have e1 : (t.setE n ep).e n = ep := by rw [Ta.e_setE hl h2, if_pos rfl]
    cases b
    · unfold Ac.does Ta.put at h ⊢
      simp only [hh] at h ⊢
      split at h
      · rename_i hq; cases hq
      · split at h
        · cases h
        · rename_i hq hv
          rw [if_neg hq, if_neg hv, if_neg (by simp)]
          split
          · exact e1
          · split
            · rename_i h5 h6
              rw [if_neg (by simp), if_neg h5, if_pos h6] at h
              cases h
            · exact e1
    · unfold Ac.does
      simp only [hh, if_true]
      exact e1

attribute [local irreducible] ld sto Ta.arr

set_option maxRecDepth 100000 in
set_option maxHeartbeats 6400000 in
theorem old_walk (t : Ta) (h : Bool) (who ep vote : Int) (w : World) (hl : t.Len) (hw1 : (Lit.int .u8 who).wf = true) :
    Calls Try.prog 6 #[TV t, .agg #[.bool h, .int .u8 who, .int .i64 ep, .int .i64 vote]] w fun e w' => e = .returned (.bool true) ∧ Below w.heap.size w w' := by
  have hwb := bounds_u8 hw1
  obtain ⟨n, rfl⟩ := Int.eq_ofNat_of_zero_le hwb.1
  obtain ⟨b0, h1, hB⟩ := box2 w t #[.bool h, .int .u8 (n : Int), .int .i64 ep, .int .i64 vote]
  clear hw1
  go_enter Try.func6, Try.ntmps6
  go_wp2_with fail
  refine (alive_yes _).mono ?_
  rintro e w1 ⟨rfl, hb⟩
  replace b0 := b0.below hb
  replace h1 := hkeep hb h1
  have BW := below_go hb hB
  clear hB hb
  have l0 := b0.load25 hl
  go_wp2_with fail
  refine (rright_is t hl _).mono ?_
  rintro e w2 ⟨rfl, hb⟩
  replace b0 := b0.below hb
  replace h1 := hkeep hb h1
  replace BW := below_go hb BW
  clear hb l0
  obtain ⟨r, hr⟩ : ∃ r, t.right = r := ⟨_, rfl⟩
  rw [hr]
  have l0 := b0.load25 hl
  cases r
  · have ho := outcome_no hr
    clear hr
    go_wp2_with fail
    refine (outcome_at hl ho _).mono ?_
    rintro e w3 ⟨rfl, hb⟩
    replace BW := below_go hb BW
    clear hb l0 b0 h1 ho
    go_wp2
    go_ret
    exact ⟨rfl, BW⟩
  clear hr
  obtain ⟨s5, c5, d⟩ := nv w2 hl
  replace b0 := b0.below d
  replace h1 := hkeep d h1
  replace BW := below_go d BW
  clear d
  have l5 := c5.load30 hl
  obtain ⟨k0, k1, k2, k3⟩ := hact h1
  go_wp2_with fail
  refine (does_is t hl h n ep vote _).mono ?_
  rintro e w3 ⟨rfl, hb⟩
  replace b0 := b0.below hb
  replace c5 := c5.below hb
  replace h1 := hkeep hb h1
  replace BW := below_go hb BW
  clear hb l0 l5 s5 k0 k1 k2 k3
  have hly := (Ac.mk h n ep vote).len hl
  have hcase : (8 ≤ n ∨ t.w n = false ∨ ep < t.e n) ∨ ((n < 8 ∧ t.w n = true ∧ t.e n ≤ ep) ) := by
    by_cases h8 : 8 ≤ n
    · exact .inl (.inl h8)
    · cases hq : t.w n
      · exact .inl (.inr (.inl rfl))
      · by_cases he : ep < t.e n
        · exact .inl (.inr (.inr he))
        · exact .inr ⟨by omega, rfl, by omega⟩
  rcases hcase with hold | ⟨hn, hwn, hen⟩
  · obtain ⟨e, he, hD⟩ := does_old (b := h) (vote := vote) hold
    rw [hD] at hly ⊢
    clear hD
    have heb : (e != 0) = true := by simpa using he
    obtain ⟨s6, c6, d⟩ := nv w3 hl
    replace b0 := b0.below d
    replace c5 := c5.below d
    replace h1 := hkeep d h1
    replace BW := below_go d BW
    clear d
    obtain ⟨k0, k1, k2, k3⟩ := hact h1
    have l5 := fun nq => (c5.drewN nq).load30 hl
    have l6 := fun nq => (c6.drewN nq).load30 hl
    have q := fun w => eq30 w 9997 hl hl
    simp only [decide_true] at q
    have BX := Lib.hid BW
    by_cases h8 : 8 ≤ n
    · have h8i : (8 : Int) ≤ (n : Int) := by omega
      have d1 : decide ((n : Int) < 8) = false := by simp; omega
      have d2 : decide ((8 : Int) ≤ (n : Int)) = true := by simp; omega
      clear hold b0 c5 c6 h1 BW
      go_wp2_with fail
      go_quiet (fail)
      go_wp2
      go_ret
      exact ⟨rfl, bdrewN BX.out _⟩
    · have h8i : (n : Int) < 8 := by omega
      have hn : n < 8 := by omega
      have hm : ((n : Int)).tmod 8 = n := Int.tmod_eq_of_lt (by omega) h8i
      have cw := b0.cw hl hn
      have ce := b0.ce hl hn
      have d1 : decide ((n : Int) < 8) = true := by simp; omega
      have d2 : decide ((8 : Int) ≤ (n : Int)) = false := by simp; omega
      cases hq : t.w n
      · rw [hq] at cw
        clear hold b0 c5 c6 h1 BW
        go_wp2_with fail
        go_quiet (fail)
        go_wp2
        go_ret
        exact ⟨rfl, bdrewN BX.out _⟩
      · rw [hq] at cw
        have hlt : ep < t.e n := by
          rcases hold with h | h | h
          · omega
          · rw [hq] at h; cases h
          · exact h
        have d3 : decide (ep < t.e n) = true := by simpa using hlt
        clear hold b0 c5 c6 h1 BW
        go_wp2_with fail
        go_quiet (fail)
        go_wp2
        go_ret
        exact ⟨rfl, bdrewN BX.out _⟩
  · have h8i : (n : Int) < 8 := by omega
    have hm : ((n : Int)).tmod 8 = n := Int.tmod_eq_of_lt (by omega) h8i
    have hge : ¬ ep < t.e n := by omega
    have d1 : decide ((n : Int) < 8) = true := by simp; omega
    have d2 : decide ((8 : Int) ≤ (n : Int)) = false := by simp; omega
    have d3 : decide (ep < t.e n) = false := by simpa using hge
    obtain ⟨D, hD⟩ : ∃ D, (Ac.mk h n ep vote).does t = D := ⟨_, rfl⟩
    have hnew := fun hz => does_new (vote := vote) (b := h) (n := n) (ep := ep) hl hz
    rw [hD] at hly hnew ⊢
    obtain ⟨y, e⟩ := D
    simp only at hly hnew ⊢
    obtain ⟨s6, c6, d⟩ := nv w3 hly
    replace b0 := b0.below d
    replace c5 := c5.below d
    replace h1 := hkeep d h1
    replace BW := below_go d BW
    clear d hD
    obtain ⟨k0, k1, k2, k3⟩ := hact h1
    have cw := b0.cw hl hn
    have ce := b0.ce hl hn
    have cy := c6.ce hly hn
    rw [hwn] at cw
    have BX := Lib.hid BW
    by_cases he : e = 0
    · subst he
      rw [hnew rfl] at cy
      have hee : (ep == ep) = true := by simp
      clear b0 c5 c6 h1 BW hnew
      go_wp2_with fail
      go_quiet (fail)
      go_wp2_with fail
      go_quiet (fail)
      go_wp2
      go_ret
      exact ⟨rfl, bdrewN (bdrewN BX.out _) _⟩
    · have heb : (e != 0) = true := by simpa using he
      clear b0 c5 c6 h1 BW hnew he
      go_wp2_with fail
      go_quiet (fail)
      go_wp2_with fail
      go_quiet (fail)
      go_wp2
      go_ret
      exact ⟨rfl, bdrewN (bdrewN BX.out _) _⟩

end Go.Proofs.Ytaodgilfoihkfaa
