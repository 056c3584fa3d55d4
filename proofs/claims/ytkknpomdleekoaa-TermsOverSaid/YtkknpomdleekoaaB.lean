/-
  The contracts of Extend and New, of the program and of the reference; Right, Over, Last of the reference.
-/
import Derived.Test.YtkknpomdleekoaaA
namespace Go.Proofs.Ytkknpomdleekoaa
open Go.RowKit
set_option linter.unusedVariables false
set_option linter.unusedSimpArgs false

theorem four_set {w : World} {g i : Nat} {t : TypeId} {cs : Array Value} (h : w.heap[g]? = some (.cells cs t (0, 0))) (u : Value) : (w.setCell ⟨g, i, none⟩ u).heap[g]? = some (.cells (cs.setIfInBounds i u) t (0, 0)) := by
  simp [World.setCell, Array.getElem?_modify, h]

theorem four_far {w : World} {g : Nat} {o : Obj} (h : w.heap[g]? = some o) {p : Addr} (hp : g ≠ p.block) (u : Value) : (w.setCell p u).heap[g]? = some o := (Go.RowKit.Below.heap_setCell w p u g hp).trans h
theorem res11 (tmps : Array Value) (W : World) (g : Nat) (a b c d e : Value) (h4 : tmps.getD 4 undef = .pointer (some ⟨g, 0, none⟩)) (h5 : tmps.getD 5 undef = e) (h : W.heap[g]? = some (.cells #[a, b, c, d] 25 (0, 0))) : (results Try.f11 tmps).run Try.prog W = .ok (.tuple #[.agg #[a, b, c, d], e]) W := by
  obtain ⟨⟨m0, m1, m2, m3⟩, _⟩ := four h
  rw [results_cell_tmp Try.results11, h4, h5]
  simp [go_sem, m0, m1, m2, m3, Result.andThen]
theorem res12 (tmps : Array Value) (W : World) (g : Nat) (a b c d e : Value) (h4 : tmps.getD 4 undef = .pointer (some ⟨g, 0, none⟩)) (h5 : tmps.getD 5 undef = e) (h : W.heap[g]? = some (.cells #[a, b, c, d] 23 (0, 0))) : (results Try.f12 tmps).run Try.prog W = .ok (.tuple #[.agg #[a, b, c, d], e]) W := by
  obtain ⟨⟨m0, m1, m2, m3⟩, _⟩ := four h
  rw [results_cell_tmp Try.results12, h4, h5]
  simp [go_sem, m0, m1, m2, m3, Result.andThen]

/- the reference -/
set_option maxHeartbeats 800000 in
theorem rright_yes (d s u c : Int) (w : World) (h : Ok d s u c) :
    Calls Try.prog 14 #[T d s u c] w fun e w' => e = .returned (.bool true) ∧ Below w.heap.size w w' := by
  obtain ⟨h1, h2, h3, h4, h5, h6, h7, h8⟩ := h
  obtain ⟨hm0, hm1⟩ := mul_bound h1 h2 h5 h6 h4
  have h9 : d ≤ 1099511627776 := by omega
  go_enter Try.func14, Try.ntmps14
  go_wp2
  go_ret
  exact ⟨by simp [h7, h8, h9], (Below.refl _ _).alloc (by simp) _⟩

set_option maxHeartbeats 1600000 in
theorem rright_no (d s u c : Int) (w : World) (h : ¬ Ok d s u c) :
    Calls Try.prog 14 #[T d s u c] w fun e w' => e = .returned (.bool false) ∧ Below w.heap.size w w' := by
  by_cases h1 : s < 1
  · go_enter Try.func14, Try.ntmps14
    go_wp2
    go_ret
    exact ⟨rfl, (Below.refl _ _).alloc (by simp) _⟩
  by_cases h2 : 1048576 < s
  · go_enter Try.func14, Try.ntmps14
    go_wp2
    go_ret
    exact ⟨rfl, (Below.refl _ _).alloc (by simp) _⟩
  by_cases h3 : c < 0
  · go_enter Try.func14, Try.ntmps14
    go_wp2
    go_ret
    exact ⟨rfl, (Below.refl _ _).alloc (by simp) _⟩
  by_cases h4 : 100 < c
  · go_enter Try.func14, Try.ntmps14
    go_wp2
    go_ret
    exact ⟨rfl, (Below.refl _ _).alloc (by simp) _⟩
  by_cases h5 : u < 0
  · go_enter Try.func14, Try.ntmps14
    go_wp2
    go_ret
    exact ⟨rfl, (Below.refl _ _).alloc (by simp) _⟩
  by_cases h6 : c < u
  · go_enter Try.func14, Try.ntmps14
    go_wp2
    go_ret
    exact ⟨rfl, (Below.refl _ _).alloc (by simp) _⟩
  by_cases h7 : s ≤ d
  · by_cases h9 : d ≤ 1099511627776
    · obtain ⟨hm0, hm1⟩ := mul_bound (s := s) (u := u) (c := c) (by omega) (by omega) (by omega) (by omega) (by omega)
      have h8 : ¬ d + (c - u) * s ≤ 1099511627776 := by
        intro h8
        exact h ⟨by omega, by omega, by omega, by omega, by omega, by omega, h7, by omega⟩
      clear h
      go_enter Try.func14, Try.ntmps14
      go_wp2
      go_ret
      exact ⟨by simp [h8], (Below.refl _ _).alloc (by simp) _⟩
    · have h9' : 1099511627776 < d := by omega
      go_enter Try.func14, Try.ntmps14
      go_wp2
      go_ret
      exact ⟨by simp [h9], (Below.refl _ _).alloc (by simp) _⟩
  · have h7' : d < s := by omega
    go_enter Try.func14, Try.ntmps14
    go_wp2
    go_ret
    exact ⟨by simp [h7], (Below.refl _ _).alloc (by simp) _⟩

set_option maxHeartbeats 800000 in
theorem rover_is (d s u c now : Int) (w : World) (h : Ok d s u c) :
    Calls Try.prog 16 #[T d s u c, .int .i64 now] w fun e w' => e = .returned (.bool (decide (d ≤ now))) ∧ Below w.heap.size w w' := by
  go_enter Try.func16, Try.ntmps16
  go_wp2_with fail
  refine (rright_yes d s u c _ h).mono ?_
  rintro e w1 ⟨rfl, hb⟩
  obtain ⟨⟨k0, k1, k2, k3⟩, _⟩ := four (kept hb (heap_alloc_new w _))
  go_wp2
  go_ret
  exact ⟨rfl, ((Below.refl _ _).alloc (by simp) _).trans (hb.mono (by simp))⟩

set_option maxHeartbeats 800000 in
theorem rover_no (d s u c now : Int) (w : World) (h : ¬ Ok d s u c) :
    Calls Try.prog 16 #[T d s u c, .int .i64 now] w fun e w' => e = .returned (.bool false) ∧ Below w.heap.size w w' := by
  go_enter Try.func16, Try.ntmps16
  go_wp2_with fail
  refine (rright_no d s u c _ h).mono ?_
  rintro e w1 ⟨rfl, hb⟩
  go_wp2
  go_ret
  exact ⟨rfl, ((Below.refl _ _).alloc (by simp) _).trans (hb.mono (by simp))⟩

set_option maxHeartbeats 800000 in
theorem rlast_no (d s u c : Int) (w : World) (h : ¬ Ok d s u c) :
    Calls Try.prog 18 #[T d s u c] w fun e w' => e = .returned (.int .i64 0) ∧ Below w.heap.size w w' := by
  go_enter Try.func18, Try.ntmps18
  go_wp2_with fail
  refine (rright_no d s u c _ h).mono ?_
  rintro e w1 ⟨rfl, hb⟩
  go_wp2
  go_ret
  exact ⟨rfl, ((Below.refl _ _).alloc (by simp) _).trans (hb.mono (by simp))⟩

set_option maxHeartbeats 800000 in
theorem rlast_is (d s u c : Int) (w : World) (h : Ok d s u c) :
    Calls Try.prog 18 #[T d s u c] w fun e w' => e = .returned (.int .i64 (d + (c - u) * s)) ∧ Below w.heap.size w w' := by
  obtain ⟨h1, h2, h3, h4, h5, h6, h7, h8⟩ := id h
  obtain ⟨hm0, hm1⟩ := mul_bound h1 h2 h5 h6 h4
  go_enter Try.func18, Try.ntmps18
  go_wp2_with fail
  refine (rright_yes d s u c _ h).mono ?_
  rintro e w1 ⟨rfl, hb⟩
  obtain ⟨⟨k0, k1, k2, k3⟩, _⟩ := four (kept hb (heap_alloc_new w _))
  go_wp2
  go_ret
  exact ⟨rfl, ((Below.refl _ _).alloc (by simp) _).trans (hb.mono (by simp))⟩

/- Extend, New () -/
set_option maxHeartbeats 1600000 in
theorem extend_bad (d s u c now : Int) (w : World) (h : ¬ Ok d s u c) :
    Calls Try.prog 11 #[T d s u c, .int .i64 now] w fun e w' => e = .returned (.tuple #[T d s u c, .int .i64 2]) ∧ Below w.heap.size w w' := by
  go_enter Try.func11, Try.ntmps11
  go_wp2_with fail
  refine (right_no d s u c _ h).mono ?_
  rintro e w1 ⟨rfl, hb⟩
  have hb0 := kept hb (Go.RowKit.Below.heap_alloc _ _ _ (by simp) |>.trans (heap_alloc_new w _))
  have hb1 := kept hb (heap_alloc_new (w.alloc (.cells #[.int .i64 d, .int .i64 s, .int .i64 u, .int .i64 c] 25)) _)
  rw [World.size_alloc] at hb1
  have B := (((Below.refl w.heap.size w).alloc (Nat.le_refl _) _).alloc (by simp) _).trans (hb.mono (by simp; omega))
  obtain ⟨⟨k0, k1, k2, k3⟩, _⟩ := four hb0
  obtain ⟨⟨m0, m1, m2, m3⟩, f0, f1, f2, f3⟩ := four hb1
  have HB := Lib.hid B
  clear hb hb0 hb1 B
  go_wp2
  refine bodyPost_ret (v := .tuple #[T d s u c, .int .i64 2]) (by simp [results, Try.results11, go_sem, m0, m1, m2, m3, f0, f1, f2, f3]) rfl ⟨rfl, ?_⟩
  repeat (with_reducible refine Below.setCell ?_ (by simp) _)
  exact HB.out

set_option maxHeartbeats 1600000 in
theorem extend_late (d s u c now : Int) (w : World) (h : Ok d s u c) (hl : d ≤ now) :
    Calls Try.prog 11 #[T d s u c, .int .i64 now] w fun e w' => e = .returned (.tuple #[T d s u c, .int .i64 11]) ∧ Below w.heap.size w w' := by
  have HK := Lib.hid h
  clear h
  go_enter Try.func11, Try.ntmps11
  go_wp2_with fail
  refine (right_yes _ _ _ _ _ HK.out).mono ?_
  rintro e w1 ⟨rfl, hb⟩
  have hb0 := kept hb (Go.RowKit.Below.heap_alloc _ _ _ (by simp) |>.trans (heap_alloc_new w _))
  have hb1 := kept hb (heap_alloc_new (w.alloc (.cells #[.int .i64 d, .int .i64 s, .int .i64 u, .int .i64 c] 25)) _)
  rw [World.size_alloc] at hb1
  have B := (((Below.refl w.heap.size w).alloc (Nat.le_refl _) _).alloc (by simp) _).trans (hb.mono (by simp; omega))
  obtain ⟨⟨k0, k1, k2, k3⟩, _⟩ := four hb0
  have HB := Lib.hid B
  have H0 := Lib.hid hb0
  have H1 := Lib.hid hb1
  clear hb hb0 hb1 B
  go_wp2_with fail
  refine (over_is _ _ _ _ _ _ HK.out).mono ?_
  rintro e w2 ⟨rfl, hb2⟩
  obtain ⟨⟨q0, q1, q2, q3⟩, g0, g1, g2, g3⟩ := four (kept hb2 H0.out)
  obtain ⟨⟨m0, m1, m2, m3⟩, f0, f1, f2, f3⟩ := four (kept hb2 H1.out)
  have HB2 := Lib.hid (HB.out.trans (hb2.mono HB.out.size))
  clear hb2 k0 k1 k2 k3
  go_wp2
  refine bodyPost_ret (v := .tuple #[T d s u c, .int .i64 11]) (by simp [results, Try.results11, go_sem, q0, q1, q2, q3, g0, g1, g2, g3, m0, m1, m2, m3, f0, f1, f2, f3]) rfl ⟨rfl, ?_⟩
  repeat (with_reducible refine Below.setCell ?_ (by simp) _)
  exact HB2.out

set_option maxHeartbeats 1600000 in
theorem extend_cap (d s u c now : Int) (w : World) (h : Ok d s u c) (hl : now < d) (hu : u = c) :
    Calls Try.prog 11 #[T d s u c, .int .i64 now] w fun e w' => e = .returned (.tuple #[T d s u c, .int .i64 12]) ∧ Below w.heap.size w w' := by
  have hl' : ¬ d ≤ now := by omega
  subst hu
  have HK := Lib.hid h
  clear h
  go_enter Try.func11, Try.ntmps11
  go_wp2_with fail
  refine (right_yes _ _ _ _ _ HK.out).mono ?_
  rintro e w1 ⟨rfl, hb⟩
  have hb0 := kept hb (Go.RowKit.Below.heap_alloc _ _ _ (by simp) |>.trans (heap_alloc_new w _))
  have hb1 := kept hb (heap_alloc_new (w.alloc (.cells #[.int .i64 d, .int .i64 s, .int .i64 u, .int .i64 u] 25)) _)
  rw [World.size_alloc] at hb1
  have B := (((Below.refl w.heap.size w).alloc (Nat.le_refl _) _).alloc (by simp) _).trans (hb.mono (by simp; omega))
  obtain ⟨⟨k0, k1, k2, k3⟩, _⟩ := four hb0
  have HB := Lib.hid B
  have H0 := Lib.hid hb0
  have H1 := Lib.hid hb1
  clear hb hb0 hb1 B
  go_wp2_with fail
  refine (over_is _ _ _ _ _ _ HK.out).mono ?_
  rintro e w2 ⟨rfl, hb2⟩
  obtain ⟨⟨q0, q1, q2, q3⟩, g0, g1, g2, g3⟩ := four (kept hb2 H0.out)
  obtain ⟨⟨m0, m1, m2, m3⟩, f0, f1, f2, f3⟩ := four (kept hb2 H1.out)
  have HB2 := Lib.hid (HB.out.trans (hb2.mono HB.out.size))
  clear hb2 k0 k1 k2 k3
  go_wp2
  refine bodyPost_ret (v := .tuple #[T d s u u, .int .i64 12]) (by simp [results, Try.results11, go_sem, q0, q1, q2, q3, g0, g1, g2, g3, m0, m1, m2, m3, f0, f1, f2, f3]) rfl ⟨rfl, ?_⟩
  repeat (with_reducible refine Below.setCell ?_ (by simp) _)
  exact HB2.out

set_option maxHeartbeats 1600000 in
theorem extend_ok (d s u c now : Int) (w : World) (h : Ok d s u c) (hl : now < d) (hu : u ≠ c) :
    Calls Try.prog 11 #[T d s u c, .int .i64 now] w fun e w' => e = .returned (.tuple #[T (d + s) s (u + 1) c, .int .i64 0]) ∧ Below w.heap.size w w' := by
  have hl' : ¬ d ≤ now := by omega
  have hu' : ((u : Int) == c) = false := by simpa using hu
  obtain ⟨h1, h2, h3, h4, h5, h6, h7, h8⟩ := id h
  have hds : d + s ≤ 1099511627776 + 1048576 := by have := mul_bound h1 h2 h5 h6 h4; omega
  have HK := Lib.hid h
  clear h
  clear hu
  go_enter Try.func11, Try.ntmps11
  go_wp2_with fail
  refine (right_yes _ _ _ _ _ HK.out).mono ?_
  rintro e w1 ⟨rfl, hb⟩
  have hb0 := kept hb (Go.RowKit.Below.heap_alloc _ _ _ (by simp) |>.trans (heap_alloc_new w _))
  have hb1 := kept hb (heap_alloc_new (w.alloc (.cells #[.int .i64 d, .int .i64 s, .int .i64 u, .int .i64 c] 25)) _)
  rw [World.size_alloc] at hb1
  have B := (((Below.refl w.heap.size w).alloc (Nat.le_refl _) _).alloc (by simp) _).trans (hb.mono (by simp; omega))
  obtain ⟨⟨k0, k1, k2, k3⟩, _⟩ := four hb0
  have HB := Lib.hid B
  have H0 := Lib.hid hb0
  have H1 := Lib.hid hb1
  clear hb hb0 hb1 B
  go_wp2_with fail
  refine (over_is _ _ _ _ _ _ HK.out).mono ?_
  rintro e w2 ⟨rfl, hb2⟩
  obtain ⟨⟨q0, q1, q2, q3⟩, g0, g1, g2, g3⟩ := four (kept hb2 H0.out)
  obtain ⟨⟨m0, m1, m2, m3⟩, f0, f1, f2, f3⟩ := four (kept hb2 H1.out)
  have HB2 := Lib.hid (HB.out.trans (hb2.mono HB.out.size))
  have HF := Lib.hid (kept hb2 H1.out)
  clear hb2 k0 k1 k2 k3
  go_wp2
  have F1 := four_far (four_far HF.out (p := ⟨w.heap.size, 0, none⟩) (by simp) (.int .i64 (d + s))) (p := ⟨w.heap.size, 2, none⟩) (by simp) (.int .i64 (u + 1))
  have F2 := four_set (four_set (four_set (four_set F1 (i := 0) (.int .i64 (d + s))) (i := 1) (.int .i64 s)) (i := 2) (.int .i64 (u + 1))) (i := 3) (.int .i64 c)
  have F3 := congrArg (fun o => o) F2
  simp only [List.setIfInBounds_toArray, List.set_cons_zero, List.set_cons_succ] at F3
  refine bodyPost_ret (v := .tuple #[T (d + s) s (u + 1) c, .int .i64 0]) (res11 _ _ _ _ _ _ _ _ rfl rfl F3) rfl ⟨rfl, ?_⟩
  repeat (with_reducible refine Below.setCell ?_ (by simp) _)
  exact HB2.out

set_option maxHeartbeats 3200000 in
theorem new_arg (now span most : Int) (w : World) (h : ¬ (0 ≤ now ∧ now ≤ 1099511627776 ∧ 1 ≤ span ∧ span ≤ 1048576 ∧ 0 ≤ most ∧ most ≤ 100)) :
    Calls Try.prog 19 #[.int .i64 now, .int .i64 span, .int .i64 most] w fun e w' => e = .returned (.tuple #[T 0 0 0 0, .int .i64 2]) ∧ Below w.heap.size w w' := by
  by_cases h1 : now < 0
  · clear h
    go_enter Try.func19, Try.ntmps19
    go_wp2
    refine bodyPost_ret (v := .tuple #[T 0 0 0 0, .int .i64 2]) (by simp [results, Try.results19, go_sem]) rfl ⟨rfl, ?_⟩
    repeat (with_reducible first | (refine Below.setCell ?_ (by simp) _) | (refine Below.alloc ?_ (by simp) _))
    exact Below.refl _ _
  by_cases h2 : 1099511627776 < now
  · clear h
    go_enter Try.func19, Try.ntmps19
    go_wp2
    refine bodyPost_ret (v := .tuple #[T 0 0 0 0, .int .i64 2]) (by simp [results, Try.results19, go_sem]) rfl ⟨rfl, ?_⟩
    repeat (with_reducible first | (refine Below.setCell ?_ (by simp) _) | (refine Below.alloc ?_ (by simp) _))
    exact Below.refl _ _
  by_cases h3 : span < 1
  · clear h
    go_enter Try.func19, Try.ntmps19
    go_wp2
    refine bodyPost_ret (v := .tuple #[T 0 0 0 0, .int .i64 2]) (by simp [results, Try.results19, go_sem]) rfl ⟨rfl, ?_⟩
    repeat (with_reducible first | (refine Below.setCell ?_ (by simp) _) | (refine Below.alloc ?_ (by simp) _))
    exact Below.refl _ _
  by_cases h4 : 1048576 < span
  · clear h
    go_enter Try.func19, Try.ntmps19
    go_wp2
    refine bodyPost_ret (v := .tuple #[T 0 0 0 0, .int .i64 2]) (by simp [results, Try.results19, go_sem]) rfl ⟨rfl, ?_⟩
    repeat (with_reducible first | (refine Below.setCell ?_ (by simp) _) | (refine Below.alloc ?_ (by simp) _))
    exact Below.refl _ _
  by_cases h5 : most < 0
  · clear h
    go_enter Try.func19, Try.ntmps19
    go_wp2
    refine bodyPost_ret (v := .tuple #[T 0 0 0 0, .int .i64 2]) (by simp [results, Try.results19, go_sem]) rfl ⟨rfl, ?_⟩
    repeat (with_reducible first | (refine Below.setCell ?_ (by simp) _) | (refine Below.alloc ?_ (by simp) _))
    exact Below.refl _ _
  by_cases h6 : 100 < most
  · clear h
    go_enter Try.func19, Try.ntmps19
    go_wp2
    refine bodyPost_ret (v := .tuple #[T 0 0 0 0, .int .i64 2]) (by simp [results, Try.results19, go_sem]) rfl ⟨rfl, ?_⟩
    repeat (with_reducible first | (refine Below.setCell ?_ (by simp) _) | (refine Below.alloc ?_ (by simp) _))
    exact Below.refl _ _
  exact absurd ⟨by omega, by omega, by omega, by omega, by omega, by omega⟩ h

/- Extend, New (r) -/
set_option maxHeartbeats 1600000 in
theorem rextend_bad (d s u c now : Int) (w : World) (h : ¬ Ok d s u c) :
    Calls Try.prog 12 #[T d s u c, .int .i64 now] w fun e w' => e = .returned (.tuple #[T d s u c, .int .i64 2]) ∧ Below w.heap.size w w' := by
  go_enter Try.func12, Try.ntmps12
  go_wp2_with fail
  refine (rright_no d s u c _ h).mono ?_
  rintro e w1 ⟨rfl, hb⟩
  have hb0 := kept hb (Go.RowKit.Below.heap_alloc _ _ _ (by simp) |>.trans (heap_alloc_new w _))
  have hb1 := kept hb (heap_alloc_new (w.alloc (.cells #[.int .i64 d, .int .i64 s, .int .i64 u, .int .i64 c] 23)) _)
  rw [World.size_alloc] at hb1
  have B := (((Below.refl w.heap.size w).alloc (Nat.le_refl _) _).alloc (by simp) _).trans (hb.mono (by simp; omega))
  obtain ⟨⟨k0, k1, k2, k3⟩, _⟩ := four hb0
  obtain ⟨⟨m0, m1, m2, m3⟩, f0, f1, f2, f3⟩ := four hb1
  have HB := Lib.hid B
  clear hb hb0 hb1 B
  go_wp2
  refine bodyPost_ret (v := .tuple #[T d s u c, .int .i64 2]) (by simp [results, Try.results12, go_sem, m0, m1, m2, m3, f0, f1, f2, f3]) rfl ⟨rfl, ?_⟩
  repeat (with_reducible refine Below.setCell ?_ (by simp) _)
  exact HB.out

set_option maxHeartbeats 1600000 in
theorem rextend_late (d s u c now : Int) (w : World) (h : Ok d s u c) (hl : d ≤ now) :
    Calls Try.prog 12 #[T d s u c, .int .i64 now] w fun e w' => e = .returned (.tuple #[T d s u c, .int .i64 11]) ∧ Below w.heap.size w w' := by
  have HK := Lib.hid h
  clear h
  go_enter Try.func12, Try.ntmps12
  go_wp2_with fail
  refine (rright_yes _ _ _ _ _ HK.out).mono ?_
  rintro e w1 ⟨rfl, hb⟩
  have hb0 := kept hb (Go.RowKit.Below.heap_alloc _ _ _ (by simp) |>.trans (heap_alloc_new w _))
  have hb1 := kept hb (heap_alloc_new (w.alloc (.cells #[.int .i64 d, .int .i64 s, .int .i64 u, .int .i64 c] 23)) _)
  rw [World.size_alloc] at hb1
  have B := (((Below.refl w.heap.size w).alloc (Nat.le_refl _) _).alloc (by simp) _).trans (hb.mono (by simp; omega))
  obtain ⟨⟨k0, k1, k2, k3⟩, _⟩ := four hb0
  have HB := Lib.hid B
  have H0 := Lib.hid hb0
  have H1 := Lib.hid hb1
  clear hb hb0 hb1 B
  go_wp2_with fail
  refine (rover_is _ _ _ _ _ _ HK.out).mono ?_
  rintro e w2 ⟨rfl, hb2⟩
  obtain ⟨⟨q0, q1, q2, q3⟩, g0, g1, g2, g3⟩ := four (kept hb2 H0.out)
  obtain ⟨⟨m0, m1, m2, m3⟩, f0, f1, f2, f3⟩ := four (kept hb2 H1.out)
  have HB2 := Lib.hid (HB.out.trans (hb2.mono HB.out.size))
  clear hb2 k0 k1 k2 k3
  go_wp2
  refine bodyPost_ret (v := .tuple #[T d s u c, .int .i64 11]) (by simp [results, Try.results12, go_sem, q0, q1, q2, q3, g0, g1, g2, g3, m0, m1, m2, m3, f0, f1, f2, f3]) rfl ⟨rfl, ?_⟩
  repeat (with_reducible refine Below.setCell ?_ (by simp) _)
  exact HB2.out

set_option maxHeartbeats 1600000 in
theorem rextend_cap (d s u c now : Int) (w : World) (h : Ok d s u c) (hl : now < d) (hu : u = c) :
    Calls Try.prog 12 #[T d s u c, .int .i64 now] w fun e w' => e = .returned (.tuple #[T d s u c, .int .i64 12]) ∧ Below w.heap.size w w' := by
  have hl' : ¬ d ≤ now := by omega
  subst hu
  have HK := Lib.hid h
  clear h
  go_enter Try.func12, Try.ntmps12
  go_wp2_with fail
  refine (rright_yes _ _ _ _ _ HK.out).mono ?_
  rintro e w1 ⟨rfl, hb⟩
  have hb0 := kept hb (Go.RowKit.Below.heap_alloc _ _ _ (by simp) |>.trans (heap_alloc_new w _))
  have hb1 := kept hb (heap_alloc_new (w.alloc (.cells #[.int .i64 d, .int .i64 s, .int .i64 u, .int .i64 u] 23)) _)
  rw [World.size_alloc] at hb1
  have B := (((Below.refl w.heap.size w).alloc (Nat.le_refl _) _).alloc (by simp) _).trans (hb.mono (by simp; omega))
  obtain ⟨⟨k0, k1, k2, k3⟩, _⟩ := four hb0
  have HB := Lib.hid B
  have H0 := Lib.hid hb0
  have H1 := Lib.hid hb1
  clear hb hb0 hb1 B
  go_wp2_with fail
  refine (rover_is _ _ _ _ _ _ HK.out).mono ?_
  rintro e w2 ⟨rfl, hb2⟩
  obtain ⟨⟨q0, q1, q2, q3⟩, g0, g1, g2, g3⟩ := four (kept hb2 H0.out)
  obtain ⟨⟨m0, m1, m2, m3⟩, f0, f1, f2, f3⟩ := four (kept hb2 H1.out)
  have HB2 := Lib.hid (HB.out.trans (hb2.mono HB.out.size))
  clear hb2 k0 k1 k2 k3
  go_wp2
  refine bodyPost_ret (v := .tuple #[T d s u u, .int .i64 12]) (by simp [results, Try.results12, go_sem, q0, q1, q2, q3, g0, g1, g2, g3, m0, m1, m2, m3, f0, f1, f2, f3]) rfl ⟨rfl, ?_⟩
  repeat (with_reducible refine Below.setCell ?_ (by simp) _)
  exact HB2.out

set_option maxHeartbeats 1600000 in
theorem rextend_ok (d s u c now : Int) (w : World) (h : Ok d s u c) (hl : now < d) (hu : u ≠ c) :
    Calls Try.prog 12 #[T d s u c, .int .i64 now] w fun e w' => e = .returned (.tuple #[T (d + s) s (u + 1) c, .int .i64 0]) ∧ Below w.heap.size w w' := by
  have hl' : ¬ d ≤ now := by omega
  have hu' : ((u : Int) == c) = false := by simpa using hu
  obtain ⟨h1, h2, h3, h4, h5, h6, h7, h8⟩ := id h
  have hds : d + s ≤ 1099511627776 + 1048576 := by have := mul_bound h1 h2 h5 h6 h4; omega
  have HK := Lib.hid h
  clear h
  clear hu
  go_enter Try.func12, Try.ntmps12
  go_wp2_with fail
  refine (rright_yes _ _ _ _ _ HK.out).mono ?_
  rintro e w1 ⟨rfl, hb⟩
  have hb0 := kept hb (Go.RowKit.Below.heap_alloc _ _ _ (by simp) |>.trans (heap_alloc_new w _))
  have hb1 := kept hb (heap_alloc_new (w.alloc (.cells #[.int .i64 d, .int .i64 s, .int .i64 u, .int .i64 c] 23)) _)
  rw [World.size_alloc] at hb1
  have B := (((Below.refl w.heap.size w).alloc (Nat.le_refl _) _).alloc (by simp) _).trans (hb.mono (by simp; omega))
  obtain ⟨⟨k0, k1, k2, k3⟩, _⟩ := four hb0
  have HB := Lib.hid B
  have H0 := Lib.hid hb0
  have H1 := Lib.hid hb1
  clear hb hb0 hb1 B
  go_wp2_with fail
  refine (rover_is _ _ _ _ _ _ HK.out).mono ?_
  rintro e w2 ⟨rfl, hb2⟩
  obtain ⟨⟨q0, q1, q2, q3⟩, g0, g1, g2, g3⟩ := four (kept hb2 H0.out)
  obtain ⟨⟨m0, m1, m2, m3⟩, f0, f1, f2, f3⟩ := four (kept hb2 H1.out)
  have HB2 := Lib.hid (HB.out.trans (hb2.mono HB.out.size))
  have HF := Lib.hid (kept hb2 H1.out)
  clear hb2 k0 k1 k2 k3
  go_wp2
  have F1 := four_far (four_far HF.out (p := ⟨w.heap.size, 0, none⟩) (by simp) (.int .i64 (d + s))) (p := ⟨w.heap.size, 2, none⟩) (by simp) (.int .i64 (u + 1))
  have F2 := four_set (four_set (four_set (four_set F1 (i := 0) (.int .i64 (d + s))) (i := 1) (.int .i64 s)) (i := 2) (.int .i64 (u + 1))) (i := 3) (.int .i64 c)
  have F3 := congrArg (fun o => o) F2
  simp only [List.setIfInBounds_toArray, List.set_cons_zero, List.set_cons_succ] at F3
  refine bodyPost_ret (v := .tuple #[T (d + s) s (u + 1) c, .int .i64 0]) (res12 _ _ _ _ _ _ _ _ rfl rfl F3) rfl ⟨rfl, ?_⟩
  repeat (with_reducible refine Below.setCell ?_ (by simp) _)
  exact HB2.out

set_option maxHeartbeats 3200000 in
theorem rnew_arg (now span most : Int) (w : World) (h : ¬ (0 ≤ now ∧ now ≤ 1099511627776 ∧ 1 ≤ span ∧ span ≤ 1048576 ∧ 0 ≤ most ∧ most ≤ 100)) :
    Calls Try.prog 20 #[.int .i64 now, .int .i64 span, .int .i64 most] w fun e w' => e = .returned (.tuple #[T 0 0 0 0, .int .i64 2]) ∧ Below w.heap.size w w' := by
  by_cases h1 : now < 0
  · clear h
    go_enter Try.func20, Try.ntmps20
    go_wp2
    refine bodyPost_ret (v := .tuple #[T 0 0 0 0, .int .i64 2]) (by simp [results, Try.results20, go_sem]) rfl ⟨rfl, ?_⟩
    repeat (with_reducible first | (refine Below.setCell ?_ (by simp) _) | (refine Below.alloc ?_ (by simp) _))
    exact Below.refl _ _
  by_cases h2 : 1099511627776 < now
  · clear h
    go_enter Try.func20, Try.ntmps20
    go_wp2
    refine bodyPost_ret (v := .tuple #[T 0 0 0 0, .int .i64 2]) (by simp [results, Try.results20, go_sem]) rfl ⟨rfl, ?_⟩
    repeat (with_reducible first | (refine Below.setCell ?_ (by simp) _) | (refine Below.alloc ?_ (by simp) _))
    exact Below.refl _ _
  by_cases h3 : span < 1
  · clear h
    go_enter Try.func20, Try.ntmps20
    go_wp2
    refine bodyPost_ret (v := .tuple #[T 0 0 0 0, .int .i64 2]) (by simp [results, Try.results20, go_sem]) rfl ⟨rfl, ?_⟩
    repeat (with_reducible first | (refine Below.setCell ?_ (by simp) _) | (refine Below.alloc ?_ (by simp) _))
    exact Below.refl _ _
  by_cases h4 : 1048576 < span
  · clear h
    go_enter Try.func20, Try.ntmps20
    go_wp2
    refine bodyPost_ret (v := .tuple #[T 0 0 0 0, .int .i64 2]) (by simp [results, Try.results20, go_sem]) rfl ⟨rfl, ?_⟩
    repeat (with_reducible first | (refine Below.setCell ?_ (by simp) _) | (refine Below.alloc ?_ (by simp) _))
    exact Below.refl _ _
  by_cases h5 : most < 0
  · clear h
    go_enter Try.func20, Try.ntmps20
    go_wp2
    refine bodyPost_ret (v := .tuple #[T 0 0 0 0, .int .i64 2]) (by simp [results, Try.results20, go_sem]) rfl ⟨rfl, ?_⟩
    repeat (with_reducible first | (refine Below.setCell ?_ (by simp) _) | (refine Below.alloc ?_ (by simp) _))
    exact Below.refl _ _
  by_cases h6 : 100 < most
  · clear h
    go_enter Try.func20, Try.ntmps20
    go_wp2
    refine bodyPost_ret (v := .tuple #[T 0 0 0 0, .int .i64 2]) (by simp [results, Try.results20, go_sem]) rfl ⟨rfl, ?_⟩
    repeat (with_reducible first | (refine Below.setCell ?_ (by simp) _) | (refine Below.alloc ?_ (by simp) _))
    exact Below.refl _ _
  exact absurd ⟨by omega, by omega, by omega, by omega, by omega, by omega⟩ h

end Go.Proofs.Ytkknpomdleekoaa
