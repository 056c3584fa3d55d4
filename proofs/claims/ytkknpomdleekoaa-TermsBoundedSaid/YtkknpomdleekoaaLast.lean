/-
  TermsLast: the walk.
-/
import Derived.Test.YtkknpomdleekoaaE
namespace Go.Proofs.Ytkknpomdleekoaa
open Go.RowKit
set_option linter.unusedVariables false
set_option linter.unusedSimpArgs false

theorem bounds_32 {n : Int} (h : (Lit.int .u32 n).wf = true) : 0 ≤ n ∧ n ≤ 4294967295 := by
  simp [Lit.wf, IntKind.min, IntKind.max, IntKind.signed, IntKind.bits] at h
  omega
theorem bounds_16 {n : Int} (h : (Lit.int .u16 n).wf = true) : 0 ≤ n ∧ n ≤ 65535 := by
  simp [Lit.wf, IntKind.min, IntKind.max, IntKind.signed, IntKind.bits] at h
  omega
theorem bounds_8 {n : Int} (h : (Lit.int .u8 n).wf = true) : 0 ≤ n ∧ n ≤ 255 := by
  simp [Lit.wf, IntKind.min, IntKind.max, IntKind.signed, IntKind.bits] at h
  omega

theorem ok_small {now span most : Int} (h1 : 0 ≤ now) (h2 : now ≤ 4294967295) (h3 : 0 ≤ span) (h4 : span ≤ 65535) (h5 : 0 ≤ most) (h6 : most ≤ 255) :
    Ok (now + (span + 1)) (span + 1) 0 (most % 101) := by
  have hn : 0 ≤ most % 101 ∧ most % 101 ≤ 100 := by omega
  have hm := mul_bound (s := span + 1) (u := 0) (c := most % 101) (by omega) (by omega) (by omega) hn.1 hn.2
  exact ⟨by omega, by omega, by omega, by omega, by omega, by omega, by omega, by omega⟩

set_option maxRecDepth 100000 in
set_option maxHeartbeats 6400000 in
theorem last_walk (now span most : Int) (w : World) (w0 : (Lit.int .u32 now).wf = true) (w1 : (Lit.int .u16 span).wf = true) (w2 : (Lit.int .u8 most).wf = true) :
    Calls Try.prog 9 #[.int .u32 now, .int .u16 span, .int .u8 most] w fun e w' => e = .returned (.bool true) ∧ Below w.heap.size w w' := by
  obtain ⟨h1, h2⟩ := bounds_32 w0
  obtain ⟨h3, h4⟩ := bounds_16 w1
  obtain ⟨h5, h6⟩ := bounds_8 w2
  have hok := ok_small h1 h2 h3 h4 h5 h6
  have hn0 : 0 ≤ most % 101 := by omega
  have hn1 : most % 101 ≤ 100 := by omega
  have hmul := mul_bound (s := span + 1) (u := 0) (c := most % 101) (by omega) (by omega) (by omega) hn0 hn1
  have e1 : (most % 101 + 1) * (span + 1) = most % 101 * (span + 1) + (span + 1) := by rw [Int.add_mul, Int.one_mul]
  rw [Int.sub_zero] at hmul
  have hp0 : 0 ≤ (most % 101 + 1) * (span + 1) := by omega
  have hp1 : (most % 101 + 1) * (span + 1) ≤ 104923136 := by omega
  have HN := Lib.hid (fun W => new_ok now (span + 1) (most % 101) W hok)
  have HL : Hid (∀ W, Calls Try.prog 17 #[T (now + (span + 1)) (span + 1) 0 (most % 101)] W fun e w' => e = .returned (.int .i64 (now + (most % 101 + 1) * (span + 1))) ∧ Below W.heap.size W w') := fun W => by
    have := last_is _ _ _ _ W hok
    rw [Int.sub_zero, show now + (span + 1) + most % 101 * (span + 1) = now + (most % 101 + 1) * (span + 1) by omega] at this
    exact this
  have HO1 : Hid (∀ W, Calls Try.prog 15 #[T (now + (span + 1)) (span + 1) 0 (most % 101), .int .i64 now] W fun e w' => e = .returned (.bool false) ∧ Below W.heap.size W w') := fun W => by
    have := over_is _ _ _ _ now W hok
    rw [decide_eq_false (by omega)] at this
    exact this
  have HO2 : Hid (∀ W, Calls Try.prog 15 #[T (now + (span + 1)) (span + 1) 0 (most % 101), .int .i64 (now + (most % 101 + 1) * (span + 1))] W fun e w' => e = .returned (.bool true) ∧ Below W.heap.size W w') := fun W => by
    have := over_is _ _ _ _ (now + (most % 101 + 1) * (span + 1)) W hok
    rw [decide_eq_true (by omega)] at this
    exact this
  have HR := Lib.hid (fun W => right_yes _ _ _ _ W hok)
  have hq : now + (most % 101 + 1) * (span + 1) ≤ 9223372036854775807 := by omega
  clear hok e1 hmul w0 w1 w2
  go_enter Try.func9, Try.ntmps9
  go_wp2_with fail
  refine (alive_yes _).mono ?_
  rintro e w1 ⟨rfl, B1⟩
  go_wp2_with fail
  refine (HN.out _).mono ?_
  rintro e w2 ⟨rfl, B2⟩
  have D2 := Lib.hid (below_end B1 B2)
  clear B1 B2
  go_wp2_with fail
  have H7 := heap_alloc_new w2 (.cells #[.int .i64 (now + (span + 1)), .int .i64 (span + 1), .int .i64 0, .int .i64 (most % 101)] 25)
  have D3 := D2.out.alloc D2.out.size (.cells #[.int .i64 (now + (span + 1)), .int .i64 (span + 1), .int .i64 0, .int .i64 (most % 101)] 25)
  generalize w2.alloc (.cells #[.int .i64 (now + (span + 1)), .int .i64 (span + 1), .int .i64 0, .int .i64 (most % 101)] 25) = W at *
  generalize w2.heap.size = g7 at *
  obtain ⟨⟨b0, b1, b2, b3⟩, _⟩ := four H7
  clear H7 D2
  have hs5 : IntKind.i64.wrap now = now := by rw [IntKind.wrap_i64]; omega
  have hs6 : IntKind.i64.wrap span = span := by rw [IntKind.wrap_i64]; omega
  have hs1 : IntKind.i64.wrap (most % 101 + 1) = most % 101 + 1 := by rw [IntKind.wrap_i64]; omega
  have hs2 : IntKind.i64.wrap (span + 1) = span + 1 := by rw [IntKind.wrap_i64]; omega
  have hs3 : IntKind.i64.wrap ((most % 101 + 1) * (span + 1)) = (most % 101 + 1) * (span + 1) := by rw [IntKind.wrap_i64]; omega
  have hs4 : IntKind.i64.wrap (now + (most % 101 + 1) * (span + 1)) = now + (most % 101 + 1) * (span + 1) := by rw [IntKind.wrap_i64]; omega
  go_region_held3 (fun w' => w'.cell? ⟨g7, 0, none⟩ = some (.int .i64 (now + (span + 1))) ∧ w'.cell? ⟨g7, 1, none⟩ = some (.int .i64 (span + 1)) ∧ w'.cell? ⟨g7, 2, none⟩ = some (.int .i64 0) ∧ w'.cell? ⟨g7, 3, none⟩ = some (.int .i64 (most % 101)) ∧ Below w.heap.size w w')
    ((go_split_ands; refine ⟨?_, ?_, ?_, ?_, ?_⟩ <;> first | assumption | exact cells_keep (by assumption) (by assumption) | exact below_go (by assumption) (by assumption) | exact Below.drew (by assumption)))
    (first
      | (go_at_call 13; refine (HR.out _).mono ?_; rintro e w' ⟨rfl, hb⟩)
      | (go_at_call 17; refine (HL.out _).mono ?_; rintro e w' ⟨rfl, hb⟩)
      | (go_at_call_of 15 (Value.int .i64 now); refine (HO1.out _).mono ?_; rintro e w' ⟨rfl, hb⟩)
      | (go_at_call 15; refine (HO2.out _).mono ?_; rintro e w' ⟨rfl, hb⟩))
  go_wp2
  go_ret
  go_split_ands
  exact ⟨rfl, by assumption⟩

end Go.Proofs.Ytkknpomdleekoaa
