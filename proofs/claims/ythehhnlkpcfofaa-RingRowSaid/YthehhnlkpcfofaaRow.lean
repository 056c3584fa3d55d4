/-
  RingRow: the walk.
-/
import Derived.Test.YthehhnlkpcfofaaB
namespace Go.Proofs.Ythehhnlkpcfofaa
open Go.RowKit
set_option linter.unusedVariables false

theorem drop_take_snoc (zs : List Int) (k m : Nat) (x : Int) (hm : m ≤ k) (hx : zs[k]? = some x) : (zs.take (k + 1)).drop m = (zs.take k).drop m ++ [x] := by
  have hk : k < zs.length := (List.getElem?_eq_some_iff.1 hx).1
  rw [List.take_add_one, hx, Option.toList_some, List.drop_append_of_le_length (by rw [List.length_take]; omega)]
theorem drop_take_cons (zs : List Int) (k m : Nat) (hm : m < k) (hk : k ≤ zs.length) : ∃ x, zs[m]? = some x ∧ (zs.take k).drop m = x :: (zs.take k).drop (m + 1) := by
  refine ⟨zs[m]'(by omega), List.getElem?_eq_getElem _, ?_⟩
  rw [List.drop_eq_getElem_cons (by rw [List.length_take]; omega)]
  simp

set_option maxHeartbeats 2000000 in
theorem ringRow_walk (a0 : Option Addr) (len0 cap0 : Nat) (z0 : List Int) (a1 : Option Addr) (len1 cap1 : Nat) (z1 : List Int) (w : World) (w0 : IsRow .i64 w a0 len0 cap0 z0) (w1 : IsRow .u8 w a1 len1 cap1 z1) :
    Calls Try.prog 3 #[.slice a0 len0 cap0, .slice a1 len1 cap1] w fun e w' => e = .returned (.bool true) ∧ Below w.heap.size w w' := by
  obtain ⟨I0, L0, hl0, hm0, wf0⟩ := w0.ints
  obtain ⟨I1, L1, hl1, hm1, wf1⟩ := w1.ints
  generalize z0.take len0 = zs at *
  generalize z1.take len1 = ps at *
  clear w0 w1
  have hlen0 : (len0 : Int) ≤ 9223372036854775807 := by omega
  have hlen1 : (len1 : Int) ≤ 9223372036854775807 := by omega
  have HI0 := Lib.hid I0
  have HI1 := Lib.hid I1
  have HL0 := Lib.hid L0
  have HL1 := Lib.hid L1
  have HW := Lib.hid wf1
  obtain ⟨B, hB⟩ : ∃ B, B = w.heap.size := ⟨_, rfl⟩
  clear I0 I1 L0 L1 wf0 wf1
  by_cases h5 : (500 : Int) < (len0 : Int)
  · go_enter Try.func3, Try.ntmps3
    go_wp2_with fail
    refine (alive_yes _).mono ?_
    rintro e wa ⟨rfl, hBa⟩
    go_wp2_with fail
    refine (new_ok 10000 _ (by decide) (by decide)).mono ?_
    rintro e wn ⟨rfl, hR, hBn⟩
    go_wp2
    go_ret
    exact ⟨rfl, hBa.trans (hBn.mono hBa.size)⟩
  · go_enter Try.func3, Try.ntmps3
    go_wp2_with fail
    refine (alive_yes _).mono ?_
    rintro e wa ⟨rfl, hBa⟩
    go_wp2_with fail
    refine (new_ok 10000 _ (by decide) (by decide)).mono ?_
    rintro e wn ⟨rfl, hR, hBn⟩
    have hB0 : Below B w wn := by rw [hB]; exact hBa.trans (hBn.mono hBa.size)
    have hHb : Hi B wa.heap.size (.slice none 0 0) := Hi.none (by rw [hB]; exact hBa.size)
    have hBs : B ≤ w.heap.size := by omega
    have hBc : B ≤ wn.heap.size := Nat.le_trans hBs hB0.size
    replace hR : RI wn wa.heap.size (.slice none 0 0) 10000 [] := hR
    generalize wa.heap.size = b at *
    clear hBa hBn
    go_wp2_with fail
    go_loopw [6, 28] (fun nx ix wr => ∃ (k m : Nat) (v : Value), k ≤ len0 ∧ m ≤ k ∧ ix = .int .i64 k ∧ nx = .int .i64 m ∧ RI wr b v 10000 ((zs.take k).drop m) ∧ Hi B b v ∧ Below B w wr) (fun _ ix _ => len0 - (intOf ix).toNat)
    case atStart => exact ⟨0, 0, _, Nat.zero_le _, Nat.le_refl _, rfl, rfl, hR, hHb, hB0⟩
    case round =>
      obtain ⟨k, m, v, hk, hmk, rfl, rfl, hR, hH, hBw⟩ := hrel
      by_cases hlt : k < len0
      · obtain ⟨x, hx⟩ : ∃ x, zs[k]? = some x := ⟨_, List.getElem?_eq_getElem (by rw [HL0.out]; exact hlt)⟩
        have HX := Lib.hid hx
        obtain ⟨b0, off0, rfl, hcell⟩ := ((hB ▸ HI0.out).below hBw).get hx
        have hq : (((zs.take k).drop m).length : Int) < 10000 := by rw [List.length_drop, List.length_take]; omega
        clear hx
        go_wp2_with fail
        refine (iPush b v 10000 _ x _ hR (by decide) (by decide) hq).mono ?_
        rintro e w1 ⟨rfl, v1, hR1, hU1, ho1⟩
        rw [← drop_take_snoc zs k m x hmk HX.out] at hR1
        have B1 := hU1.onto hBw (Nat.le_trans hBs hBw.size) hH
        have H1 := hH.new (Nat.le_trans hBs hBw.size) ho1
        clear hR hU1 ho1 hH hcell hq
        go_wp2_with fail
        go_loopw [6, 9] (fun nx kx wr => ∃ (m j : Nat) (v : Value), m ≤ k + 1 ∧ j ≤ 3 ∧ kx = .int .i64 j ∧ nx = .int .i64 m ∧ RI wr b v 10000 ((zs.take (k + 1)).drop m) ∧ Hi B b v ∧ Below B w wr) (fun _ kx _ => 3 - (intOf kx).toNat)
        case atStart => exact ⟨m, 0, v1, by omega, by omega, rfl, rfl, hR1, H1, B1⟩
        case round =>
          obtain ⟨m2, j, v2, hm2, hj, rfl, rfl, hR2, hH2, hB2⟩ := hrel
          by_cases hkp : (k : Int) < (len1 : Int)
          · obtain ⟨y, hy⟩ : ∃ y, ps[k]? = some y := ⟨_, List.getElem?_eq_getElem (by rw [HL1.out]; omega)⟩
            obtain ⟨b1, off1, rfl, hcell1⟩ := ((hB ▸ HI1.out).below hB2).get hy
            have hyw := bounds_u8 (HW.out y (List.mem_of_getElem? hy))
            clear hy
            by_cases hjy : (j : Int) < y % 3
            · have hj2 : j + 1 ≤ 3 := by omega
              by_cases he : (k : Int) < (m2 : Int)
              · -- the row is empty
                obtain rfl : m2 = k + 1 := by omega
                have hnil : (zs.take (k + 1)).drop (k + 1) = [] := by rw [List.drop_eq_nil_iff, List.length_take]; omega
                rw [hnil] at hR2
                have HN := Lib.hid hnil
                clear hnil
                go_wp2_with fail
                refine (iPop_none b v2 10000 _ hR2 (by decide)).mono ?_
                rintro e w3 ⟨rfl, rfl⟩
                go_wp2_with fail
                go_roundw
                case rel => exact ⟨k + 1, j + 1, v2, by omega, hj2, by go_num, rfl, by rw [HN.out]; exact hR2, hH2, hB2⟩
                case measure => simp [intOf]; omega
              · have he2 : m2 < k + 1 := by omega
                obtain ⟨x2, hx2, hcons⟩ := drop_take_cons zs (k + 1) m2 he2 (by rw [HL0.out]; omega)
                obtain ⟨b0', off0', hab, hcell0⟩ := ((hB ▸ HI0.out).below hB2).get hx2
                simp only [Option.some.injEq, Addr.mk.injEq, and_true] at hab
                obtain ⟨rfl, rfl⟩ := hab
                rw [hcons] at hR2
                have hml : (m2 : Int) < (len0 : Int) := by omega
                have HX2 := Lib.hid hx2
                clear hcons hx2
                go_wp2_with fail
                refine (iPop b v2 10000 x2 _ _ hR2 (by decide)).mono ?_
                rintro e w3 ⟨rfl, v3, hR3, hU3, ho3⟩
                have B3 := hU3.onto hB2 (Nat.le_trans hBs hB2.size) hH2
                obtain ⟨b3, off3, hab3, hcell3⟩ := ((hB ▸ HI0.out).below B3).get HX2.out
                simp only [Option.some.injEq, Addr.mk.injEq, and_true] at hab3
                obtain ⟨rfl, rfl⟩ := hab3
                have H3 := hH2.same ho3
                clear hR2 hU3 ho3 hH2
                go_wp2_with fail
                go_roundw
                case rel => exact ⟨m2 + 1, j + 1, v3, by omega, hj2, by go_num, by go_num, hR3, H3, B3⟩
                case measure => simp [intOf]; omega
            · have hjy2 : y % 3 ≤ (j : Int) := by omega
              go_wp2_with fail
              go_roundw
              case rel => exact ⟨k + 1, m2, v2, by omega, hm2, by go_num, rfl, hR2, hH2, hB2⟩
              case measure => simp [intOf]; omega
          · go_wp2_with fail
            go_roundw
            case rel => exact ⟨k + 1, m2, v2, by omega, hm2, by go_num, rfl, hR2, hH2, hB2⟩
            case measure => simp [intOf]; omega
      · obtain rfl : k = len0 := by omega
        go_wp2_with fail
        go_loopw [6] (fun nx wr => ∃ (m : Nat) (v : Value), m ≤ k ∧ nx = .int .i64 m ∧ RI wr b v 10000 ((zs.take k).drop m) ∧ Hi B b v ∧ Below B w wr) (fun nx _ => k - (intOf nx).toNat)
        case atStart => exact ⟨m, v, hmk, rfl, hR, hH, hBw⟩
        case round =>
          obtain ⟨m2, v2, hm2, rfl, hR2, hH2, hB2⟩ := hrel
          by_cases he2 : m2 < k
          · obtain ⟨x2, hx2, hcons⟩ := drop_take_cons zs k m2 he2 (by rw [HL0.out]; omega)
            obtain ⟨b0, off0, rfl, hcell0⟩ := ((hB ▸ HI0.out).below hB2).get hx2
            rw [hcons] at hR2
            have HX2 := Lib.hid hx2
            clear hcons hx2
            go_wp2_with fail
            refine (iPop b v2 10000 x2 _ _ hR2 (by decide)).mono ?_
            rintro e w3 ⟨rfl, v3, hR3, hU3, ho3⟩
            have B3 := hU3.onto hB2 (Nat.le_trans hBs hB2.size) hH2
            obtain ⟨b3, off3, hab3, hcell3⟩ := ((hB ▸ HI0.out).below B3).get HX2.out
            simp only [Option.some.injEq, Addr.mk.injEq, and_true] at hab3
            obtain ⟨rfl, rfl⟩ := hab3
            have H3 := hH2.same ho3
            clear hR2 hU3 ho3 hH2
            go_wp2_with fail
            go_roundw
            case rel => exact ⟨m2 + 1, v3, by omega, by go_num, hR3, H3, B3⟩
            case measure => simp [intOf]; omega
          · have hnil : (zs.take k).drop m2 = [] := by rw [List.drop_eq_nil_iff, List.length_take]; omega
            rw [hnil] at hR2
            clear hnil
            go_wp2_with fail
            refine (len_is _ _ _ _ _ _ hR2 (by decide)).mono ?_
            rintro e w3 ⟨rfl, rfl⟩
            go_wp2
            go_ret
            exact ⟨rfl, by rw [← hB]; exact hB2⟩

end Go.Proofs.Ythehhnlkpcfofaa
