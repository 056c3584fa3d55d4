/-
  TermsOften: the walk.
-/
import Derived.Test.YtkknpomdleekoaaLast
namespace Go.Proofs.Ytkknpomdleekoaa
open Go.RowKit
set_option linter.unusedVariables false
set_option linter.unusedSimpArgs false

theorem ok_step {d s u c : Int} (h : Ok d s u c) (hu : u ≠ c) : Ok (d + s) s (u + 1) c ∧ (d + s) + (c - (u + 1)) * s = d + (c - u) * s := by
  obtain ⟨h1, h2, h3, h4, h5, h6, h7, h8⟩ := h
  have e : (c - u) * s = (c - (u + 1)) * s + s := by
    rw [show c - u = (c - (u + 1)) + 1 by omega, Int.add_mul, Int.one_mul]
  have hm := mul_bound (s := s) (u := u + 1) (c := c) h1 h2 (by omega) (by omega) h4
  exact ⟨⟨h1, h2, h3, h4, by omega, by omega, by omega, by omega⟩, by omega⟩

set_option maxRecDepth 100000 in
set_option maxHeartbeats 1600000 in
theorem often_walk (now span most : Int) (w : World) (w0 : (Lit.int .u32 now).wf = true) (w1 : (Lit.int .u16 span).wf = true) (w2 : (Lit.int .u8 most).wf = true) :
    Calls Try.prog 8 #[.int .u32 now, .int .u16 span, .int .u8 most] w fun e w' => e = .returned (.bool true) ∧ Below w.heap.size w w' := by
  obtain ⟨h1, h2⟩ := bounds_32 w0
  obtain ⟨h3, h4⟩ := bounds_16 w1
  obtain ⟨h5, h6⟩ := bounds_8 w2
  have hok := ok_small h1 h2 h3 h4 h5 h6
  have hn0 : 0 ≤ most % 101 := by omega
  have hn1 : most % 101 ≤ 100 := by omega
  have HN := Lib.hid (fun W => new_ok now (span + 1) (most % 101) W hok)
  have HK := Lib.hid hok
  clear hok w0 w1 w2
  go_enter Try.func8, Try.ntmps8
  go_wp2_with fail
  refine (alive_yes _).mono ?_
  rintro e w1 ⟨rfl, B1⟩
  go_wp2_with fail
  refine (HN.out _).mono ?_
  rintro e w2 ⟨rfl, B2⟩
  have D2 := Lib.hid (below_end B1 B2)
  clear B1 B2
  go_wp2_with fail
  have H7 := heap_alloc_new w2 (.cells #[.int .i64 (now + (span + 1)), .int .i64 (span + 1), .int .i64 0, .int .i64 (most % 101)] 25)
  have D3 := D2.out.alloc D2.out.size (.cells #[.int .i64 (now + (span + 1)), .int .i64 (span + 1), .int .i64 0, .int .i64 (most % 101)] 25)
  have G7 : w.heap.size ≤ w2.heap.size := D2.out.size
  generalize w2.alloc (.cells #[.int .i64 (now + (span + 1)), .int .i64 (span + 1), .int .i64 0, .int .i64 (most % 101)] 25) = W at *
  generalize w2.heap.size = g7 at *
  clear D2 HN
  generalize hnn : most % 101 = nn at *
  have HNN := Lib.hid hnn
  clear hnn
  generalize span + 1 = s at *
  go_loopw [9] (fun cx wr => ∃ (k : Nat) (d : Int), (k : Int) ≤ nn ∧ cx = .int .i64 k ∧ Ok d s k nn ∧ wr.heap[g7]? = some (.cells #[.int .i64 d, .int .i64 s, .int .i64 k, .int .i64 nn] 25 (0, 0)) ∧ Below w.heap.size w wr) (fun cx _ => 101 - (intOf cx).toNat)
  case atStart => exact ⟨0, _, hn0, rfl, HK.out, H7, D3⟩
  case round =>
    obtain ⟨k, d, hk, rfl, hok, hb, hB⟩ := hrel
    have hk101 : (k : Int) ≤ 101 := by omega
    have hd1 : 1 ≤ d ∧ d ≤ 1099511627776 := by
      obtain ⟨g1, g2, g3, g4, g5, g6, g7', g8⟩ := id hok
      have := mul_bound g1 g2 g5 g6 g4
      omega
    obtain ⟨hd1, hd2⟩ := hd1
    obtain ⟨⟨b0, b1, b2, b3⟩, f0, f1, f2, f3⟩ := four hb
    have HO := Lib.hid hok
    have HBk := Lib.hid hb
    have HB := Lib.hid hB
    have lg := (Array.getElem?_eq_some_iff.1 hb).1
    clear hok hb hB
    by_cases hkn : (k : Int) < nn
    · have hne : (k : Int) ≠ nn := by omega
      have HX := Lib.hid (fun W => extend_ok d s k nn (d - 1) W HO.out (by omega) hne)
      have HS := Lib.hid (ok_step HO.out hne).1
      clear hne f0 f1 f2 f3
      go_wp2_with fail
      refine (HX.out _).mono ?_
      rintro e w3 ⟨rfl, B3⟩
      have H3 := kept B3 HBk.out
      have D3 := Lib.hid (below_end HB.out B3)
      have lg3 := (Array.getElem?_eq_some_iff.1 H3).1
      obtain ⟨⟨q0, q1, q2, q3⟩, f0, f1, f2, f3⟩ := four H3
      have H3h := Lib.hid H3
      clear B3 b0 b1 b2 b3 H3
      go_wp2_with fail
      go_roundw
      case rel =>
        have F2 := heap_alloc1 (four_set (four_set (four_set (four_set H3h.out (i := 0) (.int .i64 (d + s))) (i := 1) (.int .i64 s)) (i := 2) (.int .i64 (k + 1))) (i := 3) (.int .i64 nn)) (.cells #[.int .i64 (d + s), .int .i64 s, .int .i64 (k + 1), .int .i64 nn] 25)
        simp only [List.setIfInBounds_toArray, List.set_cons_zero, List.set_cons_succ] at F2
        refine ⟨k + 1, d + s, by omega, by go_num, by simpa using HS.out, by simpa using F2, ?_⟩
        refine Below.alloc ?_ (by simp; exact D3.out.size) _
        repeat (with_reducible refine Below.setCell ?_ (by exact G7) _)
        exact D3.out
      case measure => simp [intOf]; omega
    · obtain rfl : nn = (k : Int) := by omega
      have HX := Lib.hid (fun W => extend_cap d s k k (d - 1) W HO.out (by omega) rfl)
      have HL : Hid (∀ W, Calls Try.prog 17 #[T d s k k] W fun e w' => e = .returned (.int .i64 d) ∧ Below W.heap.size W w') := fun W => by
        have := last_is _ _ _ _ W HO.out
        rw [Int.sub_self, Int.zero_mul, Int.add_zero] at this
        exact this
      clear f0 f1 f2 f3
      go_wp2_with fail
      refine (HX.out _).mono ?_
      rintro e w3 ⟨rfl, B3⟩
      have H3 := kept B3 HBk.out
      have D3 := Lib.hid (below_end HB.out B3)
      have lg3 := (Array.getElem?_eq_some_iff.1 H3).1
      obtain ⟨⟨q0, q1, q2, q3⟩, f0, f1, f2, f3⟩ := four H3
      have H3h := Lib.hid H3
      clear B3 b0 b1 b2 b3 H3
      go_wp2_with fail
      have D4 := D3.out.alloc D3.out.size (.cells #[.int .i64 d, .int .i64 s, .int .i64 k, .int .i64 k] 25)
      obtain ⟨⟨p0, p1, p2, p3⟩, _⟩ := four (heap_alloc1 H3h.out (.cells #[.int .i64 d, .int .i64 s, .int .i64 k, .int .i64 k] 25))
      generalize w3.alloc (.cells #[.int .i64 d, .int .i64 s, .int .i64 k, .int .i64 k] 25) = W3 at *
      have hq : most % 101 = (k : Int) := HNN.out
      have hq2 : IntKind.i64.wrap (k : Int) = (k : Int) := by rw [IntKind.wrap_i64]; omega
      have hq3 : most.tmod 101 = (k : Int) := by rw [Int.tmod_eq_emod_of_nonneg h5, hq]
      clear q0 q1 q2 q3 f0 f1 f2 f3 H3h D3
      go_region_held3 (fun w' => w'.cell? ⟨g7, 0, none⟩ = some (.int .i64 d) ∧ w'.cell? ⟨g7, 1, none⟩ = some (.int .i64 s) ∧ w'.cell? ⟨g7, 2, none⟩ = some (.int .i64 k) ∧ w'.cell? ⟨g7, 3, none⟩ = some (.int .i64 k) ∧ Below w.heap.size w w')
        ((go_split_ands; refine ⟨?_, ?_, ?_, ?_, ?_⟩ <;> first | assumption | exact cells_keep (by assumption) (by assumption) | exact below_go (by assumption) (by assumption) | exact Below.drew (by assumption)))
        (first
          | (go_at_call 17; refine (HL.out _).mono ?_; rintro e w' ⟨rfl, hb⟩))
      go_wp2
      go_ret
      go_split_ands
      exact ⟨rfl, by assumption⟩

end Go.Proofs.Ytkknpomdleekoaa
