/-
  TermsOver: the walk.
-/
import Derived.Test.YtkknpomdleekoaaE
namespace Go.Proofs.Ytkknpomdleekoaa
open Go.RowKit
set_option linter.unusedVariables false
set_option linter.unusedSimpArgs false

set_option maxHeartbeats 3200000 in
theorem over_walk0 (d s u c now by_ : Int) (w : World) (h : ¬ Ok d s u c) :
    Calls Try.prog 7 #[T d s u c, .int .i64 now, .int .u32 by_] w fun e w' => e = .returned (.bool true) ∧ Below w.heap.size w w' := by
  have HK := Lib.hid h
  clear h
  go_enter Try.func7, Try.ntmps7
  go_wp2_with fail
  refine (alive_yes _).mono ?_
  rintro e w1 ⟨rfl, B1⟩
  have H0 := Lib.hid (kept B1 (heap_alloc_new w _))
  have D1 := Lib.hid (below_end ((Below.refl _ w).alloc (Nat.le_refl _) _) B1)
  obtain ⟨⟨a0, a1, a2, a3⟩, _⟩ := four H0.out
  clear B1
  go_wp2_with fail
  refine (rright_no d s u c _ HK.out).mono ?_
  rintro e w2 ⟨rfl, B2⟩
  have H0' := Lib.hid (kept B2 H0.out)
  have D2 := Lib.hid (below_end D1.out B2)
  clear B2 H0 D1 a0 a1 a2 a3
  obtain ⟨⟨a0, a1, a2, a3⟩, _⟩ := four H0'.out
  go_wp2_with fail
  refine (over_no d s u c now _ HK.out).mono ?_
  rintro e w3 ⟨rfl, B3⟩
  have D3 := Lib.hid (below_end D2.out B3)
  clear B3
  go_wp2
  go_ret
  exact ⟨rfl, D3.out⟩

set_option maxHeartbeats 6400000 in
theorem over_walk1 (d s u c now by_ : Int) (w : World) (h : Ok d s u c) (hl : d ≤ now) (hb0 : 0 ≤ by_) (hb1 : by_ ≤ 4294967295) :
    Calls Try.prog 7 #[T d s u c, .int .i64 now, .int .u32 by_] w fun e w' => e = .returned (.bool true) ∧ Below w.heap.size w w' := by
  have hd : 1 ≤ d := by obtain ⟨_, _, _, _, _, _, _, _⟩ := id h; omega
  have HK := Lib.hid h
  clear h
  go_enter Try.func7, Try.ntmps7
  go_wp2_with fail
  refine (alive_yes _).mono ?_
  rintro e w1 ⟨rfl, B1⟩
  have H0 := Lib.hid (kept B1 (heap_alloc_new w _))
  have D1 := Lib.hid (below_end ((Below.refl _ w).alloc (Nat.le_refl _) _) B1)
  obtain ⟨⟨a0, a1, a2, a3⟩, _⟩ := four H0.out
  clear B1
  go_wp2_with fail
  refine (rright_yes d s u c _ HK.out).mono ?_
  rintro e w2 ⟨rfl, B2⟩
  have H0' := Lib.hid (kept B2 H0.out)
  have D2 := Lib.hid (below_end D1.out B2)
  have l0 := (Array.getElem?_eq_some_iff.1 H0'.out).1
  clear B2 H0 D1 a0 a1 a2 a3
  obtain ⟨⟨a0, a1, a2, a3⟩, _⟩ := four H0'.out
  go_wp2_with fail
  refine (over_is d s u c now _ HK.out).mono ?_
  rintro e w3 ⟨rfl, B3⟩
  have H0 := Lib.hid (kept B3 (heap_alloc1 H0'.out _))
  have H7 := Lib.hid (kept B3 (heap_alloc_new w2 _))
  have D3 := Lib.hid (below_end (D2.out.alloc D2.out.size _) B3)
  have l7 := (Array.getElem?_eq_some_iff.1 H7.out).1
  clear B3 H0' D2 a0 a1 a2 a3 l0
  obtain ⟨⟨b0, b1, b2, b3⟩, _⟩ := four H7.out
  go_wp2_with fail
  refine (extend_late d s u c now _ HK.out hl).mono ?_
  rintro e w4 ⟨rfl, B4⟩
  have H7' := Lib.hid (kept B4 H7.out)
  have D4 := Lib.hid (below_end D3.out B4)
  have l7' := (Array.getElem?_eq_some_iff.1 H7'.out).1
  clear B4 H7 D3 H0 b0 b1 b2 b3 l7
  obtain ⟨⟨b0, b1, b2, b3⟩, _⟩ := four H7'.out
  by_cases hn : now ≤ 1152921504606846976
  · go_wp2_with fail
    refine (over_is d s u c (now + by_) _ HK.out).mono ?_
    rintro e w5 ⟨rfl, B5⟩
    have D5 := Lib.hid (below_end (D4.out.alloc D4.out.size _) B5)
    have hl2 : d ≤ now + by_ := by omega
    clear B5
    go_wp2
    go_ret
    exact ⟨rfl, D5.out⟩
  · go_wp2
    go_ret
    exact ⟨rfl, D4.out.alloc D4.out.size _⟩

set_option maxHeartbeats 6400000 in
theorem over_walk2 (d s u c now by_ : Int) (w : World) (h : Ok d s u c) (hl : now < d) :
    Calls Try.prog 7 #[T d s u c, .int .i64 now, .int .u32 by_] w fun e w' => e = .returned (.bool true) ∧ Below w.heap.size w w' := by
  have hl' : ¬ d ≤ now := by omega
  obtain ⟨m, hm, hE⟩ : ∃ m, extE d s u c now = m ∧ ((m = 12 ∧ u = c) ∨ (m = 0 ∧ u < c)) := by
    refine ⟨_, rfl, ?_⟩
    rw [extE, if_pos h, if_neg hl']
    obtain ⟨_, _, _, _, _, h6, _, _⟩ := h
    by_cases hu : u = c
    · rw [if_pos hu]; exact .inl ⟨rfl, hu⟩
    · rw [if_neg hu]; exact .inr ⟨rfl, by omega⟩
  have HX := Lib.hid (fun W => hm ▸ extend_any d s u c now W)
  have HK := Lib.hid h
  clear h hm
  generalize extD d s u c now = d' at HX
  generalize extU d s u c now = u' at HX
  rcases hE with ⟨rfl, rfl⟩ | ⟨rfl, hu⟩
  all_goals
    go_enter Try.func7, Try.ntmps7
    go_wp2_with fail
    refine (alive_yes _).mono ?_
    rintro e w1 ⟨rfl, B1⟩
    have H0 := Lib.hid (kept B1 (heap_alloc_new w _))
    have D1 := Lib.hid (below_end ((Below.refl _ w).alloc (Nat.le_refl _) _) B1)
    obtain ⟨⟨a0, a1, a2, a3⟩, _⟩ := four H0.out
    clear B1
    go_wp2_with fail
    refine (rright_yes _ _ _ _ _ HK.out).mono ?_
    rintro e w2 ⟨rfl, B2⟩
    have H0' := Lib.hid (kept B2 H0.out)
    have D2 := Lib.hid (below_end D1.out B2)
    have l0 := (Array.getElem?_eq_some_iff.1 H0'.out).1
    clear B2 H0 D1 a0 a1 a2 a3
    obtain ⟨⟨a0, a1, a2, a3⟩, _⟩ := four H0'.out
    go_wp2_with fail
    refine (over_is _ _ _ _ now _ HK.out).mono ?_
    rintro e w3 ⟨rfl, B3⟩
    have H0 := Lib.hid (kept B3 (heap_alloc1 H0'.out _))
    have H7 := Lib.hid (kept B3 (heap_alloc_new w2 _))
    have D3 := Lib.hid (below_end (D2.out.alloc D2.out.size _) B3)
    have l7 := (Array.getElem?_eq_some_iff.1 H7.out).1
    clear B3 H0' D2 a0 a1 a2 a3 l0
    obtain ⟨⟨b0, b1, b2, b3⟩, _⟩ := four H7.out
    go_wp2_with fail
    refine (HX.out _).mono ?_
    rintro e w4 ⟨rfl, B4⟩
    have H0' := Lib.hid (kept B4 H0.out)
    have D4 := Lib.hid (below_end D3.out B4)
    have l0' := (Array.getElem?_eq_some_iff.1 H0'.out).1
    clear B4 H7 D3 H0 b0 b1 b2 b3 l7
    obtain ⟨⟨a0, a1, a2, a3⟩, _⟩ := four H0'.out
    go_wp2
    go_ret
    exact ⟨rfl, D4.out.alloc D4.out.size _⟩

theorem over_walk (d s u c now by_ : Int) (w : World) (_w1 : (Lit.int .i64 now).wf = true) (w2 : (Lit.int .u32 by_).wf = true) :
    Calls Try.prog 7 #[T d s u c, .int .i64 now, .int .u32 by_] w fun e w' => e = .returned (.bool true) ∧ Below w.heap.size w w' := by
  by_cases h : Ok d s u c
  · by_cases hl : d ≤ now
    · have hb : 0 ≤ by_ ∧ by_ ≤ 4294967295 := by
        simp [Lit.wf, IntKind.min, IntKind.max, IntKind.signed, IntKind.bits] at w2
        omega
      exact over_walk1 d s u c now by_ w h hl hb.1 hb.2
    · exact over_walk2 d s u c now by_ w h (by omega)
  · exact over_walk0 d s u c now by_ w h

end Go.Proofs.Ytkknpomdleekoaa
