/-
  RingRoom: the walk.
-/
import Derived.Test.YthehhnlkpcfofaaX
namespace Go.Proofs.Ythehhnlkpcfofaa
open Go.RowKit
set_option linter.unusedVariables false

theorem same_n (b : Nat) (v : Value) (room : Int) (zs : List Int) (hreach : zs.length * 8 ≤ 140737488351232) (a0 : Option Addr) (n cap0 : Nat) (w : World) (hn : zs.length = n) (h : RI w b v room zs) (hr : 0 < room) (hl : Ints .i64 w.heap.size w a0 zs) :
    Calls Try.prog 15 #[.pointer (some ⟨b, 0, none⟩), .slice a0 n cap0] w fun e w' => e = .returned (.bool true) ∧ Below w.heap.size w w' := by
  subst hn; exact same_in b v room zs hreach a0 cap0 w h hr hl

theorem Ints.take {k : IntKind} {B : Nat} {w : World} {a : Option Addr} {zs : List Int} (h : Ints k B w a zs) (n : Nat) : Ints k B w a (zs.take n) := by
  rcases h with rfl | ⟨b, off, rfl, hlt, hc⟩
  · exact .inl (by simp)
  · refine .inr ⟨b, off, rfl, hlt, fun j x hj => hc j x ?_⟩
    rw [List.getElem?_take] at hj
    split at hj
    · exact hj
    · cases hj
theorem Ints.mono {k : IntKind} {B B' : Nat} {w : World} {a : Option Addr} {zs : List Int} (h : Ints k B w a zs) (hB : B ≤ B') : Ints k B' w a zs := by
  rcases h with rfl | ⟨b, off, rfl, hlt, hc⟩
  · exact .inl rfl
  · exact .inr ⟨b, off, rfl, by omega, hc⟩

theorem take_snoc2 (zs : List Int) (k : Nat) (x : Int) (h : zs[k]? = some x) : zs.take (k + 1) = zs.take k ++ [x] := by
  rw [List.take_add_one, h]; rfl

set_option maxHeartbeats 2000000 in
theorem ringRoom_walk (rm : Int) (a0 : Option Addr) (len0 cap0 : Nat) (z0 : List Int) (w : World) (wr : (Lit.int .u8 rm).wf = true) (w0 : IsRow .i64 w a0 len0 cap0 z0) :
    Calls Try.prog 5 #[.int .u8 rm, .slice a0 len0 cap0] w fun e w' => e = .returned (.bool true) ∧ Below w.heap.size w w' := by
  obtain ⟨I0, L0, hl0, hm0, wf0⟩ := w0.ints
  generalize z0.take len0 = zs at *
  clear w0 wf0
  obtain ⟨hr0, hr1⟩ := bounds_u8 wr
  have hlen0 : (len0 : Int) ≤ 9223372036854775807 := by omega
  have HI0 := Lib.hid I0
  have HL0 := Lib.hid L0
  obtain ⟨B, hB⟩ : ∃ B, B = w.heap.size := ⟨_, rfl⟩
  clear I0 L0 wr
  by_cases hz : rm = 0
  · subst hz
    go_enter Try.func5, Try.ntmps5
    go_wp2_with fail
    refine (alive_yes _).mono ?_
    rintro e wa ⟨rfl, hBa⟩
    go_wp2_with fail
    refine (new_no 0 _ (by decide)).mono ?_
    rintro e wn ⟨rfl, rfl⟩
    go_wp2
    go_ret
    exact ⟨rfl, hBa⟩
  · have hr : 1 ≤ rm := by omega
    have hrp : 0 < rm := by omega
    by_cases h5 : (500 : Int) < (len0 : Int)
    · go_enter Try.func5, Try.ntmps5
      go_wp2_with fail
      refine (alive_yes _).mono ?_
      rintro e wa ⟨rfl, hBa⟩
      go_wp2_with fail
      refine (new_ok rm _ (by omega) (by omega)).mono ?_
      rintro e wn ⟨rfl, hR, hBn⟩
      go_wp2
      go_ret
      exact ⟨rfl, hBa.trans (hBn.mono hBa.size)⟩
    · go_enter Try.func5, Try.ntmps5
      go_wp2_with fail
      refine (alive_yes _).mono ?_
      rintro e wa ⟨rfl, hBa⟩
      go_wp2_with fail
      refine (new_ok rm _ (by omega) (by omega)).mono ?_
      rintro e wn ⟨rfl, hR, hBn⟩
      have hB0 : Below B w wn := by rw [hB]; exact hBa.trans (hBn.mono hBa.size)
      have hHb : Hi B wa.heap.size (.slice none 0 0) := Hi.none (by rw [hB]; exact hBa.size)
      have hBs : B ≤ w.heap.size := by omega
      replace hR : RI wn wa.heap.size (.slice none 0 0) rm [] := hR
      generalize wa.heap.size = b at *
      clear hBa hBn
      go_wp2_with fail
      go_loopw [29] (fun ix wr => ∃ (k : Nat) (v : Value), k ≤ len0 ∧ ix = .int .i64 k ∧ RI wr b v rm ((zs.take k).take rm.toNat) ∧ Hi B b v ∧ Below B w wr) (fun ix _ => len0 - (intOf ix).toNat)
      case atStart => exact ⟨0, _, Nat.zero_le _, rfl, by simpa using hR, hHb, hB0⟩
      case round =>
        obtain ⟨k, v, hk, rfl, hR, hH, hBw⟩ := hrel
        by_cases hlt : k < len0
        · obtain ⟨x, hx⟩ : ∃ x, zs[k]? = some x := ⟨_, List.getElem?_eq_getElem (by rw [HL0.out]; exact hlt)⟩
          obtain ⟨b0, off0, rfl, hcell⟩ := ((hB ▸ HI0.out).below hBw).get hx
          have HX := Lib.hid (take_snoc2 zs k x hx)
          have HL : Hid ((zs.take k).length = k) := by rw [Hid, List.length_take, HL0.out]; omega
          clear hx
          by_cases hq : (k : Int) < rm
          · have hlen : (((zs.take k).take rm.toNat).length : Int) < rm := by rw [List.length_take, HL.out]; omega
            go_wp2_with fail
            refine (iPush b v rm _ x _ hR hrp (by omega) hlen).mono ?_
            rintro e w1 ⟨rfl, v1, hR1, hU1, ho1⟩
            have B1 := hU1.onto hBw (Nat.le_trans hBs hBw.size) hH
            have H1 := hH.new (Nat.le_trans hBs hBw.size) ho1
            have hR2 : RI w1 b v1 rm ((zs.take (k + 1)).take rm.toNat) := by
              rw [HX.out, List.take_of_length_le (by rw [List.length_append, HL.out]; simp; omega)]
              rwa [List.take_of_length_le (by rw [HL.out]; omega)] at hR1
            clear hR hU1 ho1 hH hcell hR1
            go_wp2_with fail
            go_roundw
            case rel => exact ⟨k + 1, v1, by omega, by go_num, hR2, H1, B1⟩
            case measure => simp [intOf]; omega
          · have hlen : rm ≤ (((zs.take k).take rm.toNat).length : Int) := by rw [List.length_take, HL.out]; omega
            go_wp2_with fail
            refine (iPush_full b v rm _ x _ hR hrp hlen).mono ?_
            rintro e w1 ⟨rfl, hU1⟩
            have B1 := hU1.onto hBw (Nat.le_trans hBs hBw.size) (fun _ h => h.elim)
            have hR2 : RI w1 b v rm ((zs.take (k + 1)).take rm.toNat) := by
              rw [HX.out, List.take_append_of_le_length (by rw [HL.out]; omega)]
              exact hR.upd hU1 (fun _ _ h => h)
            clear hR hU1 hcell
            go_wp2_with fail
            go_roundw
            case rel => exact ⟨k + 1, v, by omega, by go_num, hR2, hH, B1⟩
            case measure => simp [intOf]; omega
        · obtain rfl : k = len0 := by omega
          have hz2 : zs.take k = zs := List.take_of_length_le (by rw [HL0.out]; omega)
          rw [hz2] at hR
          clear hz2
          have HIr : Hid (Ints .i64 wr.heap.size wr a0 (zs.take rm.toNat)) := (((hB ▸ HI0.out).below hBw).mono (Nat.le_trans hBs hBw.size)).take _
          have HRl : Hid ((zs.take rm.toNat).length = min rm.toNat k) := by rw [Hid, List.length_take, HL0.out]
          have HM : Hid (((zs.take rm.toNat).length : Int) = min (k : Int) rm) := by rw [Hid, HRl.out]; omega
          have HN : Hid ((zs.take rm.toNat).length = (min (k : Int) rm).toNat) := by rw [Hid, HRl.out]; omega
          have hrl : (zs.take rm.toNat).length * 8 ≤ 140737488351232 := by rw [HRl.out]; omega
          go_wp2_with fail
          refine (len_is _ _ _ _ _ _ hR hrp).mono ?_
          rintro e w3 ⟨rfl, rfl⟩
          rw [HM.out]
          go_wp2_with fail
          refine (same_n b v rm _ hrl a0 _ cap0 wr HN.out hR hrp HIr.out).mono ?_
          rintro e w4 ⟨rfl, hB4⟩
          go_wp2
          go_ret
          exact ⟨rfl, by rw [← hB]; exact hBw.trans (hB4.mono (Nat.le_trans hBs hBw.size))⟩

end Go.Proofs.Ythehhnlkpcfofaa
