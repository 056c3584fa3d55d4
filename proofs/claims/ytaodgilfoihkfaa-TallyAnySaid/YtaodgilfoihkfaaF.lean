/-
  The contracts of Outcome, of the program and of the reference.
-/
import Derived.Test.YtaodgilfoihkfaaE
namespace Go.Proofs.Ytaodgilfoihkfaa
open Go.RowKit
set_option linter.unusedVariables false
set_option linter.unusedSimpArgs false

attribute [local go_sem ↓] ld22 ld23 ld25 ld30 st22 st23 st25 st30

def Ta.openB (t : Ta) (k : Nat) : Bool := (List.range k).any fun j => t.w j && decide (t.v j = 0)
def Ta.outcome (t : Ta) : Int :=
  if t.right = false then 0 else if (List.range 8).any (fun k => decide (t.v k = 2)) then 2 else if t.openB 8 then 0 else 1
theorem openB_succ (t : Ta) (k : Nat) : t.openB (k + 1) = (t.openB k || (t.w k && decide (t.v k = 0))) := by simp [Ta.openB, List.range_succ]

theorem outcome_no {t : Ta} (h : t.right = false) : t.outcome = 0 := by rw [Ta.outcome, if_pos h]
theorem outcome_two {t : Ta} (h : t.right = true) {k : Nat} (hk : k < 8) (hv : t.v k = 2) : t.outcome = 2 := by
  rw [Ta.outcome, h, if_neg (by simp), if_pos]
  rw [List.any_eq_true]
  exact ⟨k, by simpa using hk, by simp [hv]⟩
theorem outcome_else {t : Ta} (h : t.right = true) (hv : ∀ j, j < 8 → t.v j ≠ 2) : t.outcome = if t.openB 8 then 0 else 1 := by
  rw [Ta.outcome, h, if_neg (by simp), if_neg]
  rw [List.any_eq_true]
  rintro ⟨k, hk, hq⟩
  exact hv k (by simpa using hk) (by simpa using hq)
theorem right_ok {t : Ta} (h : t.right = true) {k : Nat} (hk : k < 8) : t.okAt k = true := by
  cases hq : t.okAt k
  · rw [right_no hk hq] at h
    cases h
  · rfl
theorem right_v {t : Ta} (h : t.right = true) {k : Nat} (hk : k < 8) : 0 ≤ t.v k ∧ t.v k ≤ 2 := by
  have := right_ok h hk
  simp [Ta.okAt] at this
  omega
theorem retI {a b : Int} (h : a = b) : Ending.returned (.int .i64 b) = Ending.returned (.int .i64 a) := by rw [h]

set_option maxHeartbeats 3200000 in
theorem outcome_is (t : Ta) (hl : t.Len) (w : World) :
    Calls Try.prog 19 #[TV t] w fun e w' => e = .returned (.int .i64 t.outcome) ∧ Below w.heap.size w w' := by
  have hb := bx_new w t 30
  have hB : Below w.heap.size w (w.alloc (.cells t.arr 30)) := (Below.refl _ _).alloc (by simp) _
  have l30 := hb.load30 hl
  go_enter Try.func19, Try.ntmps19
  go_wp2_with fail
  refine (right_is t hl _).mono ?_
  rintro e w1 ⟨rfl, hB1⟩
  have b0 := hb.below hB1
  have hBw : Below w.heap.size w w1 := hB.trans (hB1.mono hB.size)
  clear hb hB hB1 l30
  obtain ⟨r, hr⟩ : ∃ r, t.right = r := ⟨_, rfl⟩
  rw [hr]
  have HR := Lib.hid hr
  clear hr
  cases r
  · go_wp2
    go_ret
    exact ⟨retI (outcome_no HR.out), hBw⟩
  have l22 := b0.load22 hl
  go_wp2_with fail
  go_loopw [3, 11] (fun ox ix wr => ∃ k : Nat, k ≤ 8 ∧ ix = .int .i64 k ∧ (∃ o, ox = .int .i64 o ∧ Hid (o = if t.openB k then 0 else 1)) ∧ (∀ j, j < k → t.v j ≠ 2) ∧ Bx wr w.heap.size t ∧ Below w.heap.size w wr) (fun _ ix _ => 8 - (intOf ix).toNat)
  case atStart => exact ⟨0, by omega, rfl, ⟨_, rfl, Lib.hid rfl⟩, by omega, b0, hBw⟩
  case round =>
    clear b0 hBw l22
    obtain ⟨k, hk, rfl, ⟨o, rfl, ho⟩, hok, hb, hB⟩ := hrel
    by_cases hlt : k < 8
    · have i22 := fun w => index22 w t.W hl.w k hlt
      have cv := hb.cv hl hlt
      have hk2 : (k : Int) < 8 := by omega
      have HO := Lib.hid hok
      have HB := Lib.hid hb
      have HBw := Lib.hid hB
      clear hok hb hB
      obtain ⟨wk, hwk⟩ : ∃ q, t.W.getD k false = q := ⟨_, rfl⟩
      obtain ⟨v, hv⟩ : ∃ q, t.v k = q := ⟨_, rfl⟩
      have hs : t.openB (k + 1) = (t.openB k || (wk && decide (v = 0))) := by rw [openB_succ, ← hwk, ← hv]; rfl
      have HS := Lib.hid hs
      rw [hwk] at i22
      rw [hv] at cv
      have HV := Lib.hid hv
      clear hs hv hwk
      by_cases h2 : v = 2
      · subst h2
        go_wp2
        go_ret
        exact ⟨retI (outcome_two HR.out hlt HV.out), HBw.out⟩
      have h2b : (v == 2) = false := by simpa using h2
      have hok2 : ∀ j, j < k + 1 → t.v j ≠ 2 := fun j hj => by
        rcases Nat.lt_succ_iff_lt_or_eq.1 hj with hj | rfl
        · exact HO.out j hj
        · rw [HV.out]; exact h2
      have HO2 := Lib.hid hok2
      clear hok2
      cases wk
      · go_wp2_with fail
        go_roundw
        case rel => exact ⟨k + 1, by omega, by go_num, ⟨_, rfl, Lib.hid (by rw [HS.out, ho.out]; simp)⟩, HO2.out, HB.out, HBw.out⟩
        case measure => simp [intOf]; omega
      by_cases h0 : v = 0
      · subst h0
        go_wp2_with fail
        go_roundw
        case rel => exact ⟨k + 1, by omega, by go_num, ⟨_, rfl, Lib.hid (by rw [HS.out]; simp)⟩, HO2.out, HB.out, HBw.out⟩
        case measure => simp [intOf]; omega
      have h0b : (v == 0) = false := by simpa using h0
      go_wp2_with fail
      go_roundw
      case rel => exact ⟨k + 1, by omega, by go_num, ⟨_, rfl, Lib.hid (by rw [HS.out, ho.out]; simp [h0])⟩, HO2.out, HB.out, HBw.out⟩
      case measure => simp [intOf]; omega
    · obtain rfl : k = 8 := by omega
      have HO := Lib.hid hok
      have HBw := Lib.hid hB
      clear hok hB hb
      go_wp2
      go_ret
      exact ⟨retI ((outcome_else HR.out HO.out).trans ho.out.symm), HBw.out⟩

set_option maxHeartbeats 3200000 in
theorem routcome_is (t : Ta) (hl : t.Len) (w : World) :
    Calls Try.prog 20 #[TV t] w fun e w' => e = .returned (.int .i64 t.outcome) ∧ Below w.heap.size w w' := by
  have hb := bx_new w t 25
  have hB : Below w.heap.size w (w.alloc (.cells t.arr 25)) := (Below.refl _ _).alloc (by simp) _
  have l25 := hb.load25 hl
  go_enter Try.func20, Try.ntmps20
  go_wp2_with fail
  refine (rright_is t hl _).mono ?_
  rintro e w1 ⟨rfl, hB1⟩
  have b0 := hb.below hB1
  have hBw : Below w.heap.size w w1 := hB.trans (hB1.mono hB.size)
  clear hb hB hB1 l25
  obtain ⟨r, hr⟩ : ∃ r, t.right = r := ⟨_, rfl⟩
  rw [hr]
  have HR := Lib.hid hr
  clear hr
  cases r
  · go_wp2
    go_ret
    exact ⟨retI (outcome_no HR.out), hBw⟩
  go_wp2_with fail
  go_loopw [3, 4] (fun ox ix wr => ∃ k : Nat, k ≤ 8 ∧ ix = .int .i64 k ∧ (∃ s, ox = .bool s ∧ Hid (s = !t.openB k)) ∧ (∀ j, j < k → t.v j ≠ 2) ∧ Bx wr w.heap.size t ∧ Below w.heap.size w wr) (fun _ ix _ => 8 - (intOf ix).toNat)
  case atStart => exact ⟨0, by omega, rfl, ⟨_, rfl, Lib.hid rfl⟩, by omega, b0, hBw⟩
  case round =>
    clear b0 hBw
    obtain ⟨k, hk, rfl, ⟨s, rfl, ho⟩, hok, hb, hB⟩ := hrel
    by_cases hlt : k < 8
    · have cw := hb.cw hl hlt
      have cv := hb.cv hl hlt
      have hk2 : (k : Int) < 8 := by omega
      have HO := Lib.hid hok
      have HB := Lib.hid hb
      have HBw := Lib.hid hB
      clear hok hb hB
      obtain ⟨wk, hwk⟩ : ∃ q, t.w k = q := ⟨_, rfl⟩
      obtain ⟨v, hv⟩ : ∃ q, t.v k = q := ⟨_, rfl⟩
      have hs : t.openB (k + 1) = (t.openB k || (wk && decide (v = 0))) := by rw [openB_succ, ← hwk, ← hv]
      have HS := Lib.hid hs
      have hvb := right_v HR.out hlt
      rw [hwk] at cw
      rw [hv] at cv hvb
      have HV := Lib.hid hv
      clear hs hv hwk
      by_cases h2 : v = 2
      · subst h2
        go_wp2
        go_ret
        exact ⟨retI (outcome_two HR.out hlt HV.out), HBw.out⟩
      have h2b : (v == 2) = false := by simpa using h2
      have hok2 : ∀ j, j < k + 1 → t.v j ≠ 2 := fun j hj => by
        rcases Nat.lt_succ_iff_lt_or_eq.1 hj with hj | rfl
        · exact HO.out j hj
        · rw [HV.out]; exact h2
      have HO2 := Lib.hid hok2
      clear hok2
      have hv01 : v = 0 ∨ v = 1 := by omega
      clear hvb h2 h2b
      rcases hv01 with rfl | rfl <;> cases wk <;> cases s <;>
      · go_wp2_with fail
        go_roundw
        case rel => exact ⟨k + 1, by omega, by go_num, ⟨_, rfl, Lib.hid (by rw [HS.out, Bool.not_or, ← ho.out]; simp)⟩, HO2.out, HB.out, HBw.out⟩
        case measure => simp [intOf]; omega
    · obtain rfl : k = 8 := by omega
      have HO := Lib.hid hok
      have HBw := Lib.hid hB
      clear hok hB hb
      cases s
      · have : t.openB 8 = true := by simpa using ho.out
        have HW := Lib.hid this
        clear this
        go_wp2
        go_ret
        exact ⟨retI ((outcome_else HR.out HO.out).trans (by rw [HW.out]; rfl)), HBw.out⟩
      · have : t.openB 8 = false := by simpa using ho.out
        have HW := Lib.hid this
        clear this
        go_wp2
        go_ret
        exact ⟨retI ((outcome_else HR.out HO.out).trans (by rw [HW.out]; rfl)), HBw.out⟩

end Go.Proofs.Ytaodgilfoihkfaa
