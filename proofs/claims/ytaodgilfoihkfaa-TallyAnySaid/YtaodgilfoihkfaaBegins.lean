/-
  TallyBegins: the walk.
-/
import Derived.Test.YtaodgilfoihkfaaN
namespace Go.Proofs.Ytaodgilfoihkfaa
open Go.RowKit
set_option linter.unusedVariables false
set_option linter.unusedSimpArgs false

attribute [local go_sem ↓] ld22 ld23 ld25 ld30 st22 st23 st25 st30

theorem zero_right : Ta.zero.right = false := by decide

theorem count_step {t : Ta} (hl : t.Len) {k : Nat} (hk : k < 8) : (t.W.take (k + 1)).count true = (t.W.take k).count true + if t.w k then 1 else 0 := by
  rw [List.take_add_one, getD_eq hl hk, List.count_append]
  cases t.w k <;> rfl

attribute [local irreducible] ld sto Ta.arr

set_option maxRecDepth 100000 in
set_option maxHeartbeats 6400000 in
theorem begins_walk (a : Option Addr) (len cap : Nat) (zs : List Int) (w : World) (hr : IsRow .u8 w a len cap zs) :
    Calls Try.prog 9 #[.slice a len cap] w fun e w' => e = .returned (.bool true) ∧ Below w.heap.size w w' := by
  obtain ⟨hI, hlen, hlc, hcap, hwf⟩ := hr.ints
  generalize zs.take len = ys at *
  have HI := Lib.hid hI
  have HL := Lib.hid hlen
  have HWF := Lib.hid hwf
  have HC := Lib.hid (And.intro hlc hcap)
  clear hr hI hlen hlc hcap hwf
  go_enter Try.func9, Try.ntmps9
  go_wp2_with fail
  refine (alive_yes _).mono ?_
  rintro e w1 ⟨rfl, BW⟩
  by_cases h100 : (100 : Int) < (len : Int)
  · go_wp2
    go_ret
    exact ⟨rfl, BW⟩
  go_wp2_with fail
  refine (new_is a len cap ys w.heap.size _ (HI.out.below BW) BW.size HL.out HC.out.1 HC.out.2 HWF.out).mono ?_
  rintro e w2 ⟨rfl, hb⟩
  replace BW := below_go hb BW
  clear hb
  rcases new_cases ys with hn | ⟨t, ha, hz, hn⟩
  · rw [hn]
    clear hn
    obtain ⟨s3, c3, d⟩ := nv w2 zero_len
    replace BW := below_go d BW
    clear d
    have l3 := c3.load30 zero_len
    clear c3
    go_wp2_with fail
    refine (right_at zero_len zero_right _).mono ?_
    rintro e w3 ⟨rfl, hb⟩
    replace BW := below_go hb BW
    clear hb s3 l3
    go_wp2
    go_ret
    exact ⟨rfl, BW⟩
  have hf := fresh ha hz
  have hcnt := adds_count ys zero_len ha
  rw [show Ta.zero.W.count true = 0 from rfl, Nat.zero_add, HL.out] at hcnt
  rw [hn]
  have HF := Lib.hid hf
  have HCNT := Lib.hid hcnt
  have hl := hf.len
  clear hn ha hz hf hcnt
  obtain ⟨s3, c3, d⟩ := nv w2 hl
  replace BW := below_go d BW
  clear d
  have l22 := c3.load22 hl
  have hlt := c3.lt
  go_wp2_with fail
  clear s3 l22 hlt
  generalize (w2.alloc (.cells zlit 30)).setRow w2.heap.size t.arr = W at *
  generalize w2.heap.size = g at *
  go_loopw [5, 25] (fun nx ix wr => ∃ k : Nat, k ≤ 8 ∧ ix = .int .i64 k ∧ (∃ m : Nat, nx = .int .i64 m ∧ m ≤ k ∧ Hid (m = (t.W.take k).count true)) ∧ Bx wr g t ∧ Below w.heap.size w wr) (fun _ ix _ => 8 - (intOf ix).toNat)
  case atStart => exact ⟨0, by omega, rfl, ⟨0, rfl, by omega, Lib.hid (by simp)⟩, c3, BW⟩
  case round =>
    clear c3 BW
    obtain ⟨k, hk, rfl, ⟨m, rfl, hmk, hm⟩, c3, BW⟩ := hrel
    by_cases hlt : k < 8
    · have i22 := fun w => index22 w t.W hl.w k hlt
      have cv := c3.cv hl hlt
      have ce := c3.ce hl hlt
      rw [HF.out.v] at cv
      rw [HF.out.e] at ce
      have hk2 : (k : Int) < 8 := by omega
      have hst := count_step hl hlt
      rw [← hm.out] at hst
      have C3 := Lib.hid c3
      have BX := Lib.hid BW
      obtain ⟨wk, hwk⟩ : ∃ q, t.W.getD k false = q := ⟨_, rfl⟩
      rw [show t.w k = t.W.getD k false from rfl, hwk] at hst
      rw [hwk] at i22
      have HST := Lib.hid hst
      clear c3 BW hst hwk
      cases wk
      · go_wp2_with fail
        go_roundw
        case rel => exact ⟨k + 1, by omega, by go_num, ⟨m, rfl, by omega, Lib.hid (by rw [HST.out]; rfl)⟩, C3.out, BX.out⟩
        case measure => simp [intOf]; omega
      · go_wp2_with fail
        go_roundw
        case rel => exact ⟨k + 1, by omega, by go_num, ⟨m + 1, by go_num, by omega, Lib.hid (by rw [HST.out]; rfl)⟩, C3.out, BX.out⟩
        case measure => simp [intOf]; omega
    · obtain rfl : k = 8 := by omega
      have hml : m = len := by rw [hm.out, List.take_of_length_le (by rw [hl.w]; exact Nat.le_refl _)]; exact HCNT.out
      subst hml
      have l3 := c3.load30 hl
      have q : ((m : Int) == (m : Int)) = true := by simp
      go_wp2_with fail
      refine (outcome_at hl HF.out.outcome _).mono ?_
      rintro e w4 ⟨rfl, hb⟩
      replace c3 := c3.below hb
      replace BW := below_go hb BW
      clear hb l3
      have l3 := c3.load30 hl
      go_wp2_with fail
      refine (right_at hl HF.out.right _).mono ?_
      rintro e w5 ⟨rfl, hb⟩
      replace BW := below_go hb BW
      clear hb l3
      go_wp2
      go_ret
      exact ⟨rfl, BW⟩

end Go.Proofs.Ytaodgilfoihkfaa
