/-
  The contracts of Right, of the program and of the reference.
-/
import Derived.Test.YtaodgilfoihkfaaT
namespace Go.Proofs.Ytaodgilfoihkfaa
open Go.RowKit
set_option linter.unusedVariables false
set_option linter.unusedSimpArgs false

attribute [local go_sem ↓] ld22 ld23 ld25 ld30 st22 st23 st25 st30

theorem bx_new (w : World) (t : Ta) (T : TypeId) : Bx (w.alloc (.cells t.arr T)) w.heap.size t := ⟨T, heap_alloc_new w _⟩

theorem right_no {t : Ta} {k : Nat} (hk : k < 8) (h : t.okAt k = false) : t.right = false := by
  rw [Ta.right, Bool.and_eq_false_iff]
  left
  rw [List.all_eq_false]
  exact ⟨k, by simpa using hk, by simp [h]⟩

theorem right_yes {t : Ta} (hl : t.Len) (h : ∀ j, j < 8 → t.okAt j = true) : t.right = !decide (t.W = List.replicate 8 false) := by
  have h1 : (List.range 8).all t.okAt = true := by
    rw [List.all_eq_true]
    intro x hx
    exact h x (by simpa using hx)
  rw [Ta.right, h1, Bool.true_and]
  obtain ⟨W, V, E⟩ := t
  have hw := hl.w
  simp only at hw
  match W, hw with
  | [a, b, c, d, e, f, g, k], _ => cases a <;> cases b <;> cases c <;> cases d <;> cases e <;> cases f <;> cases g <;> cases k <;> rfl

theorem eqz22 (t : Ta) (hl : t.Len) (w : World) : (Op.equalIn 10000 22 (.agg (Ta.bs t.W).toArray) (.agg #[.bool false, .bool false, .bool false, .bool false, .bool false, .bool false, .bool false, .bool false])).run Try.prog w = .ok (decide (t.W = List.replicate 8 false)) w :=
  eq22 w 9998 t.W (List.replicate 8 false) hl.w rfl

/-- What a round of Right decides. -/
def okB (wk : Bool) (v e : Int) : Bool :=
  decide (0 ≤ v) && decide (v ≤ 2) && decide (0 ≤ e) && decide (e ≤ 1048576) && (wk || (decide (v = 0) && decide (e = 0))) && (decide (v = 0) || !decide (e = 0))

set_option maxHeartbeats 3200000 in
theorem right_is (t : Ta) (hl : t.Len) (w : World) :
    Calls Try.prog 17 #[TV t] w fun e w' => e = .returned (.bool t.right) ∧ Below w.heap.size w w' := by
  have hb := bx_new w t 30
  have hB : Below w.heap.size w (w.alloc (.cells t.arr 30)) := (Below.refl _ _).alloc (by simp) _
  have l22 := hb.load22 hl
  go_enter Try.func17, Try.ntmps17
  go_wp2_with fail
  generalize w.alloc (.cells t.arr 30) = w1 at *
  go_loopw [9] (fun ix wr => ∃ k : Nat, k ≤ 8 ∧ ix = .int .i64 k ∧ (∀ j, j < k → t.okAt j = true) ∧ Bx wr w.heap.size t ∧ Below w.heap.size w wr) (fun ix _ => 8 - (intOf ix).toNat)
  case atStart => exact ⟨0, by omega, rfl, by omega, hb, hB⟩
  case round =>
    clear hb hB l22
    obtain ⟨k, hk, rfl, hok, hb, hB⟩ := hrel
    by_cases hlt : k < 8
    · have i22 := fun w => index22 w t.W hl.w k hlt
      have cv := hb.cv hl hlt
      have ce := hb.ce hl hlt
      have hk2 : (k : Int) < 8 := by omega
      have HO := Lib.hid hok
      have HB := Lib.hid hb
      have HBw := Lib.hid hB
      clear hok hb hB
      obtain ⟨wk, hwk⟩ : ∃ q, t.W.getD k false = q := ⟨_, rfl⟩
      obtain ⟨v, hv⟩ : ∃ q, t.v k = q := ⟨_, rfl⟩
      obtain ⟨e, he⟩ : ∃ q, t.e k = q := ⟨_, rfl⟩
      have hq : t.okAt k = okB wk v e := by rw [← hwk, ← hv, ← he]; rfl
      have HQ := Lib.hid hq
      rw [hwk] at i22
      rw [hv] at cv
      rw [he] at ce
      clear hq hwk hv he
      have no : okB wk v e = false → t.right = false := fun h => right_no hlt (HQ.out.trans h)
      have NO := Lib.hid no
      clear no
      by_cases h1 : v < 0
      · skip
        go_wp2_with fail
        go_quiet (fail)
        go_wp2
        go_ret
        exact ⟨retB (NO.out (by simp [okB]; omega)), bdrewN HBw.out _⟩
      by_cases h2 : 2 < v
      · skip
        go_wp2_with fail
        go_quiet (fail)
        go_wp2
        go_ret
        exact ⟨retB (NO.out (by simp [okB]; omega)), bdrewN HBw.out _⟩
      by_cases h3 : e < 0
      · skip
        go_wp2_with fail
        go_quiet (fail)
        go_wp2
        go_ret
        exact ⟨retB (NO.out (by simp [okB]; omega)), bdrewN HBw.out _⟩
      by_cases h4 : 1048576 < e
      · skip
        go_wp2_with fail
        go_quiet (fail)
        go_wp2
        go_ret
        exact ⟨retB (NO.out (by simp [okB]; omega)), bdrewN HBw.out _⟩
      by_cases h5 : v = 0
      · subst h5
        by_cases h6 : 0 < e
        · cases wk
          · go_wp2_with fail
            go_quiet (fail)
            go_wp2
            go_ret
            exact ⟨retB (NO.out (by simp [okB]; omega)), bdrewN HBw.out _⟩
          · have yes : t.okAt k = true := HQ.out.trans (by simp [okB]; omega)
            go_wp2_with fail
            go_quiet (fail)
            go_wp2_with fail
            go_roundw
            case rel => exact ⟨k + 1, by omega, by go_num, fun j hj => by rcases Nat.lt_succ_iff_lt_or_eq.1 hj with hj | rfl; exact HO.out j hj; exact yes, HB.out.drewN _, bdrewN HBw.out _⟩
            case measure => simp [intOf]; omega
        · obtain rfl : e = 0 := by omega
          have yes : t.okAt k = true := HQ.out.trans (by simp [okB])
          cases wk
          · go_wp2_with fail
            go_quiet (fail)
            go_wp2_with fail
            go_roundw
            case rel => exact ⟨k + 1, by omega, by go_num, fun j hj => by rcases Nat.lt_succ_iff_lt_or_eq.1 hj with hj | rfl; exact HO.out j hj; exact yes, HB.out.drewN _, bdrewN HBw.out _⟩
            case measure => simp [intOf]; omega
          · go_wp2_with fail
            go_quiet (fail)
            go_wp2_with fail
            go_roundw
            case rel => exact ⟨k + 1, by omega, by go_num, fun j hj => by rcases Nat.lt_succ_iff_lt_or_eq.1 hj with hj | rfl; exact HO.out j hj; exact yes, HB.out.drewN _, bdrewN HBw.out _⟩
            case measure => simp [intOf]; omega
      · cases wk
        · go_wp2_with fail
          go_quiet (fail)
          go_wp2
          go_ret
          exact ⟨retB (NO.out (by simp [okB, h5])), bdrewN HBw.out _⟩
        have h5c : (v != 0) = true := by simpa using h5
        have h5b : (v == 0) = false := by simpa using h5
        by_cases h6 : e = 0
        · subst h6
          go_wp2_with fail
          go_quiet (fail)
          go_wp2
          go_ret
          exact ⟨retB (NO.out (by simp [okB, h5])), bdrewN HBw.out _⟩
        · have yes : t.okAt k = true := HQ.out.trans (by simp [okB, h5, h6]; omega)
          have h6b : (e == 0) = false := by simpa using h6
          go_wp2_with fail
          go_quiet (fail)
          go_wp2_with fail
          go_roundw
          case rel => exact ⟨k + 1, by omega, by go_num, fun j hj => by rcases Nat.lt_succ_iff_lt_or_eq.1 hj with hj | rfl; exact HO.out j hj; exact yes, HB.out.drewN _, bdrewN HBw.out _⟩
          case measure => simp [intOf]; omega
    · obtain rfl : k = 8 := by omega
      have l22 := hb.load22 hl
      have HO := Lib.hid hok
      have HBw := Lib.hid hB
      clear hok hB hb
      have q := eqz22 t hl
      have R := right_yes hl HO.out
      have HR := Lib.hid R
      clear R
      generalize decide (t.W = List.replicate 8 false) = z at *
      go_wp2
      go_ret
      exact ⟨retB HR.out, HBw.out⟩

def anyW (t : Ta) (k : Nat) : Bool := (List.range k).any t.w
theorem anyW_succ (t : Ta) (k : Nat) : anyW t (k + 1) = (anyW t k || t.w k) := by simp [anyW, List.range_succ]
theorem right_any {t : Ta} (h : ∀ j, j < 8 → t.okAt j = true) : t.right = anyW t 8 := by
  have h1 : (List.range 8).all t.okAt = true := by
    rw [List.all_eq_true]
    intro x hx
    exact h x (by simpa using hx)
  rw [Ta.right, h1, Bool.true_and, anyW]

set_option maxHeartbeats 3200000 in
theorem rright_is (t : Ta) (hl : t.Len) (w : World) :
    Calls Try.prog 18 #[TV t] w fun e w' => e = .returned (.bool t.right) ∧ Below w.heap.size w w' := by
  have hb := bx_new w t 25
  have hB : Below w.heap.size w (w.alloc (.cells t.arr 25)) := (Below.refl _ _).alloc (by simp) _
  go_enter Try.func18, Try.ntmps18
  go_wp2_with fail
  generalize w.alloc (.cells t.arr 25) = w1 at *
  go_loopw [3, 4] (fun sx ix wr => ∃ k : Nat, k ≤ 8 ∧ ix = .int .i64 k ∧ (∃ s, sx = .bool s ∧ Hid (s = anyW t k)) ∧ (∀ j, j < k → t.okAt j = true) ∧ Bx wr w.heap.size t ∧ Below w.heap.size w wr) (fun _ ix _ => 8 - (intOf ix).toNat)
  case atStart => exact ⟨0, by omega, rfl, ⟨_, rfl, Lib.hid rfl⟩, by omega, hb, hB⟩
  case round =>
    clear hb hB
    obtain ⟨k, hk, rfl, ⟨s, rfl, hs⟩, hok, hb, hB⟩ := hrel
    by_cases hlt : k < 8
    · have cw := hb.cw hl hlt
      have cv := hb.cv hl hlt
      have ce := hb.ce hl hlt
      have hk2 : (k : Int) < 8 := by omega
      have HO := Lib.hid hok
      have HB := Lib.hid hb
      have HBw := Lib.hid hB
      clear hok hb hB
      obtain ⟨wk, hwk⟩ : ∃ q, t.w k = q := ⟨_, rfl⟩
      obtain ⟨v, hv⟩ : ∃ q, t.v k = q := ⟨_, rfl⟩
      obtain ⟨e, he⟩ : ∃ q, t.e k = q := ⟨_, rfl⟩
      have hq : t.okAt k = okB wk v e := by rw [← hwk, ← hv, ← he]; rfl
      have HQ := Lib.hid hq
      have hs2 : anyW t (k + 1) = (s || wk) := by rw [anyW_succ, hs.out, hwk]
      have HS := Lib.hid hs2
      rw [hwk] at cw
      rw [hv] at cv
      rw [he] at ce
      clear hq hwk hv he hs hs2
      have no : okB wk v e = false → t.right = false := fun h => right_no hlt (HQ.out.trans h)
      have NO := Lib.hid no
      clear no
      by_cases h1 : v < 0
      · skip
        go_wp2_with fail
        go_quiet (fail)
        go_wp2
        go_ret
        exact ⟨retB (NO.out (by simp [okB]; omega)), bdrewN HBw.out _⟩
      by_cases h2 : 2 < v
      · skip
        go_wp2_with fail
        go_quiet (fail)
        go_wp2
        go_ret
        exact ⟨retB (NO.out (by simp [okB]; omega)), bdrewN HBw.out _⟩
      by_cases h3 : e < 0
      · skip
        go_wp2_with fail
        go_quiet (fail)
        go_wp2
        go_ret
        exact ⟨retB (NO.out (by simp [okB]; omega)), bdrewN HBw.out _⟩
      by_cases h4 : 1048576 < e
      · skip
        go_wp2_with fail
        go_quiet (fail)
        go_wp2
        go_ret
        exact ⟨retB (NO.out (by simp [okB]; omega)), bdrewN HBw.out _⟩
      by_cases h5 : v = 0
      · subst h5
        by_cases h6 : e = 0
        · subst h6
          have yes : t.okAt k = true := HQ.out.trans (by simp [okB])
          cases wk <;> cases s
          · go_wp2_with fail
            go_quiet (fail)
            go_wp2_with fail
            go_roundw
            case rel => exact ⟨k + 1, by omega, by go_num, ⟨_, rfl, Lib.hid (by rw [HS.out]; rfl)⟩, fun j hj => by rcases Nat.lt_succ_iff_lt_or_eq.1 hj with hj | rfl; exact HO.out j hj; exact yes, HB.out.drewN _, bdrewN HBw.out _⟩
            case measure => simp [intOf]; omega
          · go_wp2_with fail
            go_quiet (fail)
            go_wp2_with fail
            go_roundw
            case rel => exact ⟨k + 1, by omega, by go_num, ⟨_, rfl, Lib.hid (by rw [HS.out]; rfl)⟩, fun j hj => by rcases Nat.lt_succ_iff_lt_or_eq.1 hj with hj | rfl; exact HO.out j hj; exact yes, HB.out.drewN _, bdrewN HBw.out _⟩
            case measure => simp [intOf]; omega
          · go_wp2_with fail
            go_quiet (fail)
            go_wp2_with fail
            go_roundw
            case rel => exact ⟨k + 1, by omega, by go_num, ⟨_, rfl, Lib.hid (by rw [HS.out]; rfl)⟩, fun j hj => by rcases Nat.lt_succ_iff_lt_or_eq.1 hj with hj | rfl; exact HO.out j hj; exact yes, HB.out.drewN _, bdrewN HBw.out _⟩
            case measure => simp [intOf]; omega
          · go_wp2_with fail
            go_quiet (fail)
            go_wp2_with fail
            go_roundw
            case rel => exact ⟨k + 1, by omega, by go_num, ⟨_, rfl, Lib.hid (by rw [HS.out]; rfl)⟩, fun j hj => by rcases Nat.lt_succ_iff_lt_or_eq.1 hj with hj | rfl; exact HO.out j hj; exact yes, HB.out.drewN _, bdrewN HBw.out _⟩
            case measure => simp [intOf]; omega
        have h6b : (e == 0) = false := by simpa using h6
        have h6c : (e != 0) = true := by simpa using h6
        cases wk
        · go_wp2_with fail
          go_quiet (fail)
          go_wp2
          go_ret
          exact ⟨retB (NO.out (by simp [okB, h6])), bdrewN HBw.out _⟩
        have yes : t.okAt k = true := HQ.out.trans (by simp [okB, h6]; omega)
        cases s
        · go_wp2_with fail
          go_quiet (fail)
          go_wp2_with fail
          go_roundw
          case rel => exact ⟨k + 1, by omega, by go_num, ⟨_, rfl, Lib.hid (by rw [HS.out]; rfl)⟩, fun j hj => by rcases Nat.lt_succ_iff_lt_or_eq.1 hj with hj | rfl; exact HO.out j hj; exact yes, HB.out.drewN _, bdrewN HBw.out _⟩
          case measure => simp [intOf]; omega
        · go_wp2_with fail
          go_quiet (fail)
          go_wp2_with fail
          go_roundw
          case rel => exact ⟨k + 1, by omega, by go_num, ⟨_, rfl, Lib.hid (by rw [HS.out]; rfl)⟩, fun j hj => by rcases Nat.lt_succ_iff_lt_or_eq.1 hj with hj | rfl; exact HO.out j hj; exact yes, HB.out.drewN _, bdrewN HBw.out _⟩
          case measure => simp [intOf]; omega
      have h5c : (v != 0) = true := by simpa using h5
      have h5b : (v == 0) = false := by simpa using h5
      have h5d : 0 < v := by omega
      by_cases h6 : e = 0
      · subst h6
        go_wp2_with fail
        go_quiet (fail)
        go_wp2
        go_ret
        exact ⟨retB (NO.out (by simp [okB, h5])), bdrewN HBw.out _⟩
      have h6b : (e == 0) = false := by simpa using h6
      have h6c : (e != 0) = true := by simpa using h6
      cases wk
      · go_wp2_with fail
        go_quiet (fail)
        go_wp2
        go_ret
        exact ⟨retB (NO.out (by simp [okB, h5])), bdrewN HBw.out _⟩
      have yes : t.okAt k = true := HQ.out.trans (by simp [okB, h5, h6]; omega)
      cases s
      · go_wp2_with fail
        go_quiet (fail)
        go_wp2_with fail
        go_roundw
        case rel => exact ⟨k + 1, by omega, by go_num, ⟨_, rfl, Lib.hid (by rw [HS.out]; rfl)⟩, fun j hj => by rcases Nat.lt_succ_iff_lt_or_eq.1 hj with hj | rfl; exact HO.out j hj; exact yes, HB.out.drewN _, bdrewN HBw.out _⟩
        case measure => simp [intOf]; omega
      · go_wp2_with fail
        go_quiet (fail)
        go_wp2_with fail
        go_roundw
        case rel => exact ⟨k + 1, by omega, by go_num, ⟨_, rfl, Lib.hid (by rw [HS.out]; rfl)⟩, fun j hj => by rcases Nat.lt_succ_iff_lt_or_eq.1 hj with hj | rfl; exact HO.out j hj; exact yes, HB.out.drewN _, bdrewN HBw.out _⟩
        case measure => simp [intOf]; omega
    · obtain rfl : k = 8 := by omega
      have HO := Lib.hid hok
      have HBw := Lib.hid hB
      clear hok hB hb
      go_wp2
      go_ret
      exact ⟨retB ((right_any HO.out).trans hs.out.symm), HBw.out⟩

end Go.Proofs.Ytaodgilfoihkfaa
