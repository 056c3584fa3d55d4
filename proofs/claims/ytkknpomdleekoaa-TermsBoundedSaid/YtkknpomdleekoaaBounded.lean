/-
  TermsBounded: the walk.
-/
import Derived.Test.YtkknpomdleekoaaOften
import Derived.Test.YtkknpomdleekoaaBegin
namespace Go.Proofs.Ytkknpomdleekoaa
open Go.RowKit
set_option linter.unusedVariables false
set_option linter.unusedSimpArgs false

set_option maxRecDepth 100000 in
set_option maxHeartbeats 3200000 in
theorem bounded_walk (d s u c : Int) (a : Option Addr) (len cap : Nat) (z : List Int) (w : World) (wz : IsRow .i64 w a len cap z) :
    Calls Try.prog 5 #[T d s u c, .slice a len cap] w fun e w' => e = .returned (.bool true) ∧ Below w.heap.size w w' := by
  obtain ⟨I0, L0, hl, hm, wf0⟩ := wz.ints
  generalize z.take len = zs at *
  have HI := Lib.hid I0
  have HL := Lib.hid L0
  clear wz I0 L0 wf0
  have hm' : (len : Int) ≤ 9223372036854775807 := by omega
  by_cases hok : Ok d s u c
  · have HK := Lib.hid hok
    clear hok
    go_enter Try.func5, Try.ntmps5
    go_wp2_with fail
    refine (alive_yes _).mono ?_
    rintro e w1 ⟨rfl, B1⟩
    have H0 := Lib.hid (kept B1 (heap_alloc_new w _))
    have D1 := Lib.hid (below_end ((Below.refl _ w).alloc (Nat.le_refl _) _) B1)
    obtain ⟨⟨a0, a1, a2, a3⟩, _⟩ := four H0.out
    clear B1
    go_wp2_with fail
    refine (rright_yes d s u c _ HK.out).mono ?_
    rintro e w2 ⟨rfl, B2⟩
    have H0' := Lib.hid (kept B2 H0.out)
    have D2 := Lib.hid (below_end D1.out B2)
    clear B2 H0 D1 a0 a1 a2 a3
    obtain ⟨⟨a0, a1, a2, a3⟩, _⟩ := four H0'.out
    by_cases hbig : (200 : Int) < (len : Int)
    · go_wp2
      go_ret
      exact ⟨rfl, D2.out⟩
    · go_wp2_with fail
      refine (last_is d s u c _ HK.out).mono ?_
      rintro e w3 ⟨rfl, B3⟩
      have H5 := kept B3 (heap_alloc_new w2 _)
      have D3 := below_end (D2.out.alloc D2.out.size _) B3
      have G5 : w.heap.size ≤ w2.heap.size := D2.out.size
      generalize w2.heap.size = g5 at *
      clear B3 H0' D2 a0 a1 a2 a3
      generalize hLL : d + (c - u) * s = L at *
      have HLL := Lib.hid hLL
      have HH5 := Lib.hid H5
      have HD3 := Lib.hid D3
      clear hLL H5 D3
      go_wp2_with fail
      go_loopw [26] (fun ix wr => ∃ (k : Nat) (d2 u2 : Int), k ≤ len ∧ ix = .int .i64 k ∧ Ok d2 s u2 c ∧ d2 + (c - u2) * s = L ∧ wr.heap[g5]? = some (.cells #[.int .i64 d2, .int .i64 s, .int .i64 u2, .int .i64 c] 25 (0, 0)) ∧ Below w.heap.size w wr) (fun ix _ => len - (intOf ix).toNat)
      case atStart => exact ⟨0, _, _, Nat.zero_le _, rfl, HK.out, HLL.out, HH5.out, HD3.out⟩
      case round =>
        obtain ⟨k, d2, u2, hk, rfl, hok, hL, hb, hB⟩ := hrel
        have HO := Lib.hid hok
        have HQ := Lib.hid hL
        have HBk := Lib.hid hb
        have HB := Lib.hid hB
        clear hok hL hb hB HK HH5 HD3 HLL
        by_cases hlt : k < len
        · obtain ⟨x, hx⟩ : ∃ x, zs[k]? = some x := ⟨_, List.getElem?_eq_getElem (by rw [HL.out]; exact hlt)⟩
          obtain ⟨b, off, rfl, hcell⟩ := (HI.out.below HB.out).get hx
          clear hx
          obtain ⟨⟨b0, b1, b2, b3⟩, f0, f1, f2, f3⟩ := four HBk.out
          have lg := (Array.getElem?_eq_some_iff.1 HBk.out).1
          have hdb : 1 ≤ d2 ∧ d2 ≤ 1099511627776 ∧ 1 ≤ s ∧ s ≤ 1048576 ∧ 0 ≤ u2 ∧ u2 ≤ 100 := by
            obtain ⟨g1, g2, g3, g4, g5', g6, g7, g8⟩ := HO.out
            have := mul_bound g1 g2 g5' g6 g4
            omega
          obtain ⟨hd1, hd2, hs1, hs2, hu1, hu2⟩ := hdb
          have hcase : (x < d2 ∧ u2 ≠ c) ∨ ∃ m, m ≠ 0 ∧ ∀ W, Calls Try.prog 11 #[T d2 s u2 c, .int .i64 x] W fun e w' => e = .returned (.tuple #[T d2 s u2 c, .int .i64 m]) ∧ Below W.heap.size W w' := by
            by_cases hl' : d2 ≤ x
            · exact .inr ⟨11, by decide, fun W => extend_late d2 s u2 c x W HO.out hl'⟩
            · by_cases hu : u2 = c
              · exact .inr ⟨12, by decide, fun W => by have := extend_cap d2 s u2 c x W HO.out (by omega) hu; subst hu; exact this⟩
              · exact .inl ⟨by omega, hu⟩
          rcases hcase with ⟨hxd, hne⟩ | ⟨m, hm0, hX⟩
          · have HX := Lib.hid (fun W => extend_ok d2 s u2 c x W HO.out hxd hne)
            have HS := Lib.hid (ok_step HO.out hne)
            clear hne
            have HR2 := Lib.hid (fun W => right_yes _ _ _ _ W HS.out.1)
            have HL2 : Hid (∀ W, Calls Try.prog 17 #[T (d2 + s) s (u2 + 1) c] W fun e w' => e = .returned (.int .i64 L) ∧ Below W.heap.size W w') := fun W => by
              have := last_is _ _ _ _ W HS.out.1
              rw [(HS.out.2.trans HQ.out)] at this
              exact this
            have hdL : (d2 + s) ≤ L := by
              have h1 := (HS.out.2.trans HQ.out)
              obtain ⟨g1, g2, g3, g4, g5', g6, g7, g8⟩ := HS.out.1
              have := mul_bound g1 g2 g5' g6 g4
              omega
            go_wp2_with fail
            refine (HX.out _).mono ?_
            rintro e w4 ⟨rfl, B4⟩
            have H5 := Lib.hid (kept B4 HBk.out)
            have D4 := Lib.hid (below_end HB.out B4)
            have lg4 := (Array.getElem?_eq_some_iff.1 H5.out).1
            clear B4 b0 b1 b2 b3 f0 f1 f2 f3
            go_wp2_with fail
            refine (HR2.out _).mono ?_
            rintro e w5 ⟨rfl, B5⟩
            have H5' := Lib.hid (kept B5 (heap_alloc1 H5.out _))
            have H9 := Lib.hid (kept B5 (heap_alloc_new w4 _))
            have D5 := Lib.hid (below_end (D4.out.alloc D4.out.size _) B5)
            obtain ⟨⟨c0, c1, c2, c3⟩, _⟩ := four H9.out
            clear B5 D4 H5
            go_wp2_with fail
            refine (HL2.out _).mono ?_
            rintro e w6 ⟨rfl, B6⟩
            have H6 := Lib.hid (kept B6 H5'.out)
            have H9' := Lib.hid (kept B6 H9.out)
            have D6 := Lib.hid (below_end D5.out B6)
            have lg6 := (Array.getElem?_eq_some_iff.1 H6.out).1
            clear B6 D5 H5' H9 c0 c1 c2 c3
            obtain ⟨⟨c0, c1, c2, c3⟩, _⟩ := four H9'.out
            obtain ⟨⟨b0, b1, b2, b3⟩, f0, f1, f2, f3⟩ := four H6.out
            go_wp2_with fail
            go_roundw
            case rel =>
              have F2 := four_set (four_set (four_set (four_set H6.out (i := 0) (.int .i64 (d2 + s))) (i := 1) (.int .i64 s)) (i := 2) (.int .i64 (u2 + 1))) (i := 3) (.int .i64 c)
              simp only [List.setIfInBounds_toArray, List.set_cons_zero, List.set_cons_succ] at F2
              refine ⟨k + 1, (d2 + s), (u2 + 1), by omega, by go_num, HS.out.1, (HS.out.2.trans HQ.out), F2, ?_⟩
              repeat (with_reducible refine Below.setCell ?_ (by exact G5) _)
              exact D6.out
            case measure => simp [intOf]; omega
          · have HX := Lib.hid hX
            have em1 : (m == 0) = false := by simpa using hm0
            have em2 : (m != 0) = true := by simpa using hm0
            clear hX hm0
            have HR2 := Lib.hid (fun W => right_yes _ _ _ _ W HO.out)
            have HL2 : Hid (∀ W, Calls Try.prog 17 #[T d2 s u2 c] W fun e w' => e = .returned (.int .i64 L) ∧ Below W.heap.size W w') := fun W => by
              have := last_is _ _ _ _ W HO.out
              rw [HQ.out] at this
              exact this
            have hdL : d2 ≤ L := by
              have h1 := HQ.out
              obtain ⟨g1, g2, g3, g4, g5', g6, g7, g8⟩ := HO.out
              have := mul_bound g1 g2 g5' g6 g4
              omega
            go_wp2_with fail
            refine (HX.out _).mono ?_
            rintro e w4 ⟨rfl, B4⟩
            have H5 := Lib.hid (kept B4 HBk.out)
            have D4 := Lib.hid (below_end HB.out B4)
            have lg4 := (Array.getElem?_eq_some_iff.1 H5.out).1
            clear B4 b0 b1 b2 b3 f0 f1 f2 f3
            go_wp2_with fail
            refine (HR2.out _).mono ?_
            rintro e w5 ⟨rfl, B5⟩
            have H5' := Lib.hid (kept B5 (heap_alloc1 H5.out _))
            have H9 := Lib.hid (kept B5 (heap_alloc_new w4 _))
            have D5 := Lib.hid (below_end (D4.out.alloc D4.out.size _) B5)
            obtain ⟨⟨c0, c1, c2, c3⟩, _⟩ := four H9.out
            clear B5 D4 H5
            go_wp2_with fail
            refine (HL2.out _).mono ?_
            rintro e w6 ⟨rfl, B6⟩
            have H6 := Lib.hid (kept B6 H5'.out)
            have H9' := Lib.hid (kept B6 H9.out)
            have D6 := Lib.hid (below_end D5.out B6)
            have lg6 := (Array.getElem?_eq_some_iff.1 H6.out).1
            clear B6 D5 H5' H9 c0 c1 c2 c3
            obtain ⟨⟨c0, c1, c2, c3⟩, _⟩ := four H9'.out
            obtain ⟨⟨b0, b1, b2, b3⟩, f0, f1, f2, f3⟩ := four H6.out
            go_wp2_with fail
            go_roundw
            case rel =>
              have F2 := four_set (four_set (four_set (four_set H6.out (i := 0) (.int .i64 d2)) (i := 1) (.int .i64 s)) (i := 2) (.int .i64 u2)) (i := 3) (.int .i64 c)
              simp only [List.setIfInBounds_toArray, List.set_cons_zero, List.set_cons_succ] at F2
              refine ⟨k + 1, d2, u2, by omega, by go_num, HO.out, HQ.out, F2, ?_⟩
              repeat (with_reducible refine Below.setCell ?_ (by exact G5) _)
              exact D6.out
            case measure => simp [intOf]; omega
        · go_wp2
          go_ret
          exact ⟨rfl, HB.out⟩
  · have HK := Lib.hid hok
    clear hok
    go_enter Try.func5, Try.ntmps5
    go_wp2_with fail
    refine (alive_yes _).mono ?_
    rintro e w1 ⟨rfl, B1⟩
    have H0 := Lib.hid (kept B1 (heap_alloc_new w _))
    have D1 := Lib.hid (below_end ((Below.refl _ w).alloc (Nat.le_refl _) _) B1)
    obtain ⟨⟨a0, a1, a2, a3⟩, _⟩ := four H0.out
    clear B1
    go_wp2_with fail
    refine (rright_no d s u c _ HK.out).mono ?_
    rintro e w2 ⟨rfl, B2⟩
    have D2 := Lib.hid (below_end D1.out B2)
    clear B2
    go_wp2
    go_ret
    exact ⟨rfl, D2.out⟩

end Go.Proofs.Ytkknpomdleekoaa
