/-
  Air: AirRows.
-/
import Derived.Test.YtehgbpepaakanaaL
namespace Go.Proofs.Ytehgbpepaakanaa
open Go.RowKit
set_option linter.unusedVariables false
set_option linter.unusedSimpArgs false

set_option maxHeartbeats 2000000 in
theorem rows_true (a : Option Addr) (n cap : Nat) (xs : List SB) (p q : Nat) (w : World) (hx : Bs2 w a xs) (hn : xs.length = n) (hp : p ≤ 255) (hq : q ≤ 255) : Calls Try.prog 3 #[.slice a n cap, .int .u8 p, .int .u8 q] w fun e w' => e = .returned (.bool true) ∧ Below w.heap.size w w' := by
  have HX := Lib.hid hx
  clear hx
  go_enter Try.func3, Try.ntmps3
  go_wp2_with fail
  refine (alive_is _).mono ?_
  rintro e w1 ⟨rfl, hB1⟩
  go_wp2_with fail
  refine (new_hi 1000 _ (by decide) (by decide)).mono ?_
  rintro e w2 ⟨A, rfl, hA2, hB2⟩
  have hBw : Below w.heap.size w w2 := hB1.trans (hB2.mono hB1.size)
  have hA := hA2.less (N' := fun k => k < w.heap.size) (fun k h => Nat.lt_of_lt_of_le h hB1.size)
  by_cases h5 : 500 < n
  · have h5i : (500 : Int) < (n : Int) := by omega
    go_wp2_with fail
    go_ret
    exact ⟨rfl, hBw⟩
  · have h5i : ¬ (500 : Int) < (n : Int) := by omega
    obtain ⟨T, hTe⟩ : ∃ T : Nat, T = p % 17 := ⟨_, rfl⟩
    obtain ⟨F, hFe⟩ : ∃ F : Nat, F = q % 17 := ⟨_, rfl⟩
    have hT : (p : Int) % 17 = (T : Int) := by omega
    have hF : (q : Int) % 17 = (F : Int) := by omega
    have hT17 : T < 17 := by omega
    have hF17 : F < 17 := by omega
    have HA := Lib.hid hA
    clear hTe hFe hA hA2 hB1 hB2
    go_wp2_with fail
    simp only [hT, hF]
    clear hT hF
    go_loopw [32] (fun ix wr => ∃ (k : Nat) (st : Nat → List Lt), k ≤ n ∧ ix = .int .i64 k ∧ AirHi (fun k => k < w.heap.size) wr A 1000 st ∧ st T = sent F T (xs.take k) ∧ Below w.heap.size w wr) (fun ix _ => n - (intOf ix).toNat)
    case atStart => exact ⟨0, _, by omega, rfl, HA.out, rfl, hBw⟩
    case round =>
      obtain ⟨k, st, hk, rfl, hA, hst, hB⟩ := hrel
      by_cases hlt : k < n
      · obtain ⟨x, hx⟩ : ∃ x, xs[k]? = some x := ⟨_, List.getElem?_eq_getElem (hn ▸ hlt)⟩
        obtain ⟨b0, off, rfl, hc, hbr, hin⟩ := (HX.out.below hB).get hx
        have hki : (k : Int) < (n : Int) := by omega
        have HAk := Lib.hid hA
        have HS := Lib.hid hst
        have HXk := Lib.hid hx
        have HBR := Lib.hid hbr
        clear hA hst hx hbr hin
        by_cases hm : x.m ≤ 4000
        · have hmi : (x.m : Int) ≤ 4000 := by omega
          go_wp2_with fail
          refine (send_hi F T x.a x.m x.d x.bs HAk.out hT17 (by omega) hm HBR.out (by rw [HS.out]; have := sent_len F T (xs.take k); simp at this; omega)).mono ?_
          rintro e w3 ⟨rfl, hA3, hK3⟩
          go_wp2_with fail
          go_roundw
          case rel => exact ⟨k + 1, _, by omega, by go_num, hA3, by rw [upd_same, HS.out, sent_more F T xs k x HXk.out hm], hB.trans (hK3.below hB.size (fun k h => h))⟩
          case measure => simp [intOf]; omega
        · have hmi : ¬ (x.m : Int) ≤ 4000 := by omega
          go_wp2_with fail
          go_roundw
          case rel => exact ⟨k + 1, st, by omega, by go_num, HAk.out, by rw [HS.out, sent_same F T xs k x HXk.out hm], hB⟩
          case measure => simp [intOf]; omega
      · obtain rfl : k = n := by omega
        rw [show xs.take k = xs.drop 0 by rw [List.take_of_length_le (by omega)]; rfl] at hst
        have HAk := Lib.hid hA
        have HS := Lib.hid hst
        clear hA hst
        go_wp2_with fail
        go_loopw [51] (fun ix wr => ∃ (j : Nat) (st : Nat → List Lt), j ≤ k ∧ ix = .int .i64 j ∧ AirHi (fun k => k < w.heap.size) wr A 1000 st ∧ st T = sent F T (xs.drop j) ∧ Below w.heap.size w wr) (fun ix _ => k - (intOf ix).toNat)
        case atStart => exact ⟨0, st, by omega, rfl, HAk.out, HS.out, hB⟩
        case round =>
          clear HS HAk hB
          obtain ⟨j, st2, hj, rfl, hA, hst, hB⟩ := hrel
          by_cases hlt2 : j < k
          · obtain ⟨x, hx⟩ : ∃ x, xs[j]? = some x := ⟨_, List.getElem?_eq_getElem (hn ▸ hlt2)⟩
            have hbr : BR w x.a x.m x.d x.bs := by obtain ⟨_, _, _, _, h, _⟩ := HX.out.get hx; exact h
            obtain ⟨b0, off, rfl, hc, hbr2, hin⟩ := (HX.out.below hB).get hx
            clear hbr2
            have hki : (j : Int) < (k : Int) := by omega
            have HAk := Lib.hid hA
            have HS := Lib.hid hst
            have HXk := Lib.hid hx
            have HBR := Lib.hid hbr
            clear hA hst hx hbr hin
            by_cases hm : x.m ≤ 4000
            · have hmi : ¬ (4000 : Int) < (x.m : Int) := by omega
              go_wp2_with fail
              refine (take_hi T 0 ⟨F, T, x.bs⟩ HAk.out hT17 (by rw [HS.out, sent_drop F T xs j x HXk.out hm]; rfl)).mono ?_
              rintro e w3 ⟨a3, m3, d3, rfl, hS3, hA3, hK3⟩
              obtain ⟨w4, hw4, hb4, hB4⟩ := let_box F T a3 m3 d3 w3
              have hA4 := hA3.below hB4
              have B3 := hB.trans (hK3.below hB.size (fun k h => h))
              have B4 := B3.trans (hB4.mono B3.size)
              have k4 := (hS3.readS.below hB4).str
              have kx := (HBR.out.below B4).str
              have y0 := blk_cell hb4 0
              have y1 := blk_cell hb4 1
              have y2 := blk_cell hb4 2
              simp at y0 y1 y2
              have HW4 := Lib.hid hw4
              clear hw4
              go_upto_region 18 with fail
              rw [HW4.out]
              go_wp2_with fail
              go_roundw
              case rel => exact ⟨j + 1, _, by omega, by go_num, hA4.less (fun k h => .inl h), by rw [upd_same, HS.out, sent_drop F T xs j x HXk.out hm]; rfl, B4⟩
              case measure => simp [intOf]; omega
            · have hmi : (4000 : Int) < (x.m : Int) := by omega
              go_wp2_with fail
              go_roundw
              case rel => exact ⟨j + 1, st2, by omega, by go_num, HAk.out, by rw [HS.out, sent_pass F T xs j x HXk.out hm], hB⟩
              case measure => simp [intOf]; omega
          · obtain rfl : j = k := by omega
            have h0 : (st2 T).length = 0 := by rw [hst, List.drop_of_length_le (by omega)]; rfl
            have HAk := Lib.hid hA
            clear hA hst
            go_wp2_with fail
            refine (len_hi T HAk.out hT17).mono ?_
            rintro e w3 ⟨rfl, rfl⟩
            rw [h0]
            go_wp2_with fail
            go_ret
            exact ⟨rfl, hB⟩

end Go.Proofs.Ytehgbpepaakanaa
