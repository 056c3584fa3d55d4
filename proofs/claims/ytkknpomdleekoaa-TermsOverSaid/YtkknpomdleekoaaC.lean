/-
  The contracts of New (where it succeeds, or is too big), slices.Max and Agree, of the program and of the reference.
-/
import Derived.Test.YtkknpomdleekoaaB
import Derived.Test.YtkknpomdleekoaaK
namespace Go.Proofs.Ytkknpomdleekoaa
open Go.RowKit
set_option linter.unusedVariables false
set_option linter.unusedSimpArgs false


theorem res19 (tmps : Array Value) (W : World) (g : Nat) (a b c d e : Value) (h4 : tmps.getD 6 undef = .pointer (some ⟨g, 0, none⟩)) (h5 : tmps.getD 7 undef = e) (h : W.heap[g]? = some (.cells #[a, b, c, d] 25 (0, 0))) : (results Try.f19 tmps).run Try.prog W = .ok (.tuple #[.agg #[a, b, c, d], e]) W := by
  obtain ⟨⟨m0, m1, m2, m3⟩, _⟩ := four h
  rw [results_cell_tmp Try.results19, h4, h5]
  simp [go_sem, m0, m1, m2, m3, Result.andThen]

theorem res20 (tmps : Array Value) (W : World) (g : Nat) (a b c d e : Value) (h4 : tmps.getD 6 undef = .pointer (some ⟨g, 0, none⟩)) (h5 : tmps.getD 7 undef = e) (h : W.heap[g]? = some (.cells #[a, b, c, d] 23 (0, 0))) : (results Try.f20 tmps).run Try.prog W = .ok (.tuple #[.agg #[a, b, c, d], e]) W := by
  obtain ⟨⟨m0, m1, m2, m3⟩, _⟩ := four h
  rw [results_cell_tmp Try.results20, h4, h5]
  simp [go_sem, m0, m1, m2, m3, Result.andThen]

theorem ok_new {now span most : Int} : Ok (now + span) span 0 most ↔ 1 ≤ span ∧ span ≤ 1048576 ∧ 0 ≤ most ∧ most ≤ 100 ∧ 0 ≤ now ∧ now + (most + 1) * span ≤ 1099511627776 := by
  unfold Ok
  rw [Int.add_mul, Int.one_mul, Int.sub_zero]
  omega

set_option maxHeartbeats 1600000 in
theorem new_big (now span most : Int) (w : World) (h : 0 ≤ now ∧ now ≤ 1099511627776 ∧ 1 ≤ span ∧ span ≤ 1048576 ∧ 0 ≤ most ∧ most ≤ 100) (hb : ¬ Ok (now + span) span 0 most) :
    Calls Try.prog 19 #[.int .i64 now, .int .i64 span, .int .i64 most] w fun e w' => e = .returned (.tuple #[T 0 0 0 0, .int .i64 3]) ∧ Below w.heap.size w w' := by
  obtain ⟨h1, h2, h3, h4, h5, h6⟩ := h
  have HK := Lib.hid hb
  clear hb
  go_enter Try.func19, Try.ntmps19
  go_wp2_with fail
  refine (right_no _ _ _ _ _ HK.out).mono ?_
  rintro e w1 ⟨rfl, hb⟩
  have hb0 := kept hb (Go.RowKit.Below.heap_alloc _ _ _ (by simp) |>.trans (heap_alloc_new w _))
  have B := (((Below.refl w.heap.size w).alloc (Nat.le_refl _) _).alloc (by simp) _).trans (hb.mono (by simp; omega))
  obtain ⟨⟨m0, m1, m2, m3⟩, f0, f1, f2, f3⟩ := four hb0
  have HB := Lib.hid B
  clear hb hb0 B
  go_wp2
  refine bodyPost_ret (v := .tuple #[T 0 0 0 0, .int .i64 3]) (by simp [results, Try.results19, go_sem, m0, m1, m2, m3, f0, f1, f2, f3]) rfl ⟨rfl, ?_⟩
  repeat (with_reducible refine Below.setCell ?_ (by simp) _)
  exact HB.out

set_option maxHeartbeats 1600000 in
theorem new_ok (now span most : Int) (w : World) (hb : Ok (now + span) span 0 most) :
    Calls Try.prog 19 #[.int .i64 now, .int .i64 span, .int .i64 most] w fun e w' => e = .returned (.tuple #[T (now + span) span 0 most, .int .i64 0]) ∧ Below w.heap.size w w' := by
  obtain ⟨h3, h4, h5, h6, h1, h2'⟩ := ok_new.1 hb
  have h2 : now ≤ 1099511627776 := by
    have := mul_bound (s := span) (u := 0) (c := most) h3 h4 (by omega) h5 h6
    rw [Int.sub_zero] at this
    rw [Int.add_mul, Int.one_mul] at h2'
    omega
  have HK := Lib.hid hb
  clear hb h2'
  go_enter Try.func19, Try.ntmps19
  go_wp2_with fail
  refine (right_yes _ _ _ _ _ HK.out).mono ?_
  rintro e w1 ⟨rfl, hb⟩
  have hb0 := kept hb (Go.RowKit.Below.heap_alloc _ _ _ (by simp) |>.trans (heap_alloc_new w _))
  have hb1 := kept hb (heap_alloc_new (w.alloc (.cells #[.int .i64 0, .int .i64 0, .int .i64 0, .int .i64 0] 25)) _)
  rw [World.size_alloc] at hb1
  have B := (((Below.refl w.heap.size w).alloc (Nat.le_refl _) _).alloc (by simp) _).trans (hb.mono (by simp; omega))
  obtain ⟨⟨m0, m1, m2, m3⟩, f0, f1, f2, f3⟩ := four hb0
  obtain ⟨⟨q0, q1, q2, q3⟩, g0, g1, g2, g3⟩ := four hb1
  have HB := Lib.hid B
  have H0 := Lib.hid hb0
  clear hb hb0 hb1 B
  go_wp2
  have F2 := four_set (four_set (four_set (four_set H0.out (i := 0) (.int .i64 (now + span))) (i := 1) (.int .i64 span)) (i := 2) (.int .i64 0)) (i := 3) (.int .i64 most)
  simp only [List.setIfInBounds_toArray, List.set_cons_zero, List.set_cons_succ] at F2
  refine bodyPost_ret (v := .tuple #[T (now + span) span 0 most, .int .i64 0]) (res19 _ _ _ _ _ _ _ _ rfl rfl F2) rfl ⟨rfl, ?_⟩
  repeat (with_reducible refine Below.setCell ?_ (by simp) _)
  exact HB.out

set_option maxHeartbeats 1600000 in
theorem rnew_big (now span most : Int) (w : World) (h : 0 ≤ now ∧ now ≤ 1099511627776 ∧ 1 ≤ span ∧ span ≤ 1048576 ∧ 0 ≤ most ∧ most ≤ 100) (hb : ¬ Ok (now + span) span 0 most) :
    Calls Try.prog 20 #[.int .i64 now, .int .i64 span, .int .i64 most] w fun e w' => e = .returned (.tuple #[T 0 0 0 0, .int .i64 3]) ∧ Below w.heap.size w w' := by
  obtain ⟨h1, h2, h3, h4, h5, h6⟩ := h
  obtain ⟨hm0, hm1⟩ := mul_bound (s := span) (u := 0) (c := most) h3 h4 (by omega) h5 h6
  rw [Int.sub_zero] at hm0 hm1
  have e1 : (most + 1) * span = most * span + span := by rw [Int.add_mul, Int.one_mul]
  have n0 : 0 ≤ (most + 1) * span := by omega
  have n1 : (most + 1) * span ≤ 105906176 := by omega
  have n2 : 1099511627776 < now + (most + 1) * span := by
    have : ¬ now + (most + 1) * span ≤ 1099511627776 := fun hh => hb (ok_new.2 ⟨h3, h4, h5, h6, h1, hh⟩)
    omega
  clear hb e1 hm0 hm1
  go_enter Try.func20, Try.ntmps20
  go_wp2
  refine bodyPost_ret (v := .tuple #[T 0 0 0 0, .int .i64 3]) (by simp [results, Try.results20, go_sem]) rfl ⟨rfl, ?_⟩
  repeat (with_reducible first | (refine Below.setCell ?_ (by simp) _) | (refine Below.alloc ?_ (by simp) _))
  exact Below.refl _ _

set_option maxHeartbeats 1600000 in
theorem rnew_ok (now span most : Int) (w : World) (hb : Ok (now + span) span 0 most) :
    Calls Try.prog 20 #[.int .i64 now, .int .i64 span, .int .i64 most] w fun e w' => e = .returned (.tuple #[T (now + span) span 0 most, .int .i64 0]) ∧ Below w.heap.size w w' := by
  obtain ⟨h3, h4, h5, h6, h1, n2⟩ := ok_new.1 hb
  obtain ⟨hm0, hm1⟩ := mul_bound (s := span) (u := 0) (c := most) h3 h4 (by omega) h5 h6
  rw [Int.sub_zero] at hm0 hm1
  have e1 : (most + 1) * span = most * span + span := by rw [Int.add_mul, Int.one_mul]
  have n0 : 0 ≤ (most + 1) * span := by omega
  have n1 : (most + 1) * span ≤ 105906176 := by omega
  have h2 : now ≤ 1099511627776 := by omega
  clear hb e1 hm0 hm1
  go_enter Try.func20, Try.ntmps20
  go_wp2
  refine bodyPost_ret (v := .tuple #[T (now + span) span 0 most, .int .i64 0]) (by simp [results, Try.results20, go_sem]) rfl ⟨rfl, ?_⟩
  repeat (with_reducible first | (refine Below.setCell ?_ (by simp) _) | (refine Below.alloc ?_ (by simp) _))
  exact Below.refl _ _

/-- The most of the first k + 1 numbers. -/
def M (zs : List Int) : Nat → Int
  | 0 => zs.getD 0 0
  | k + 1 => if M zs k < zs[k + 1]?.getD 0 then zs[k + 1]?.getD 0 else M zs k

set_option maxHeartbeats 800000 in
theorem max_is (a : Option Addr) (len cap : Nat) (zs : List Int) (w : World) (h : Ints .i64 w.heap.size w a zs) (hl : zs.length = len) (hc : len ≤ cap) (hm : cap ≤ 9223372036854775807) (h0 : 0 < len) :
    Calls Try.prog 24 #[.slice a len cap] w fun e w' => e = .returned (.int .i64 (M zs (len - 1))) ∧ w = w' := by
  rcases h with rfl | ⟨b, off, rfl, hb, hcell⟩
  · simp at hl; omega
  have hc0 : w.cell? ⟨b, off, none⟩ = some (.int .i64 (zs.getD 0 0)) := by
    have := hcell 0 (zs.getD 0 0) (by simp [List.getD, List.getElem?_eq_getElem (show 0 < zs.length by omega)])
    simpa using this
  have hlen : (1 : Int) ≤ (len : Int) := by omega
  have hp : (0 : Int) < (len : Int) := by omega
  have HL := Lib.hid hl
  have HC := Lib.hid hcell
  clear hl hcell
  go_enter Try.func24, Try.ntmps24
  go_wp2_with fail
  go_loop [3, 4] (fun m i => ∃ k : Nat, k + 1 ≤ len ∧ i = .int .i64 ((k + 1 : Nat) : Int) ∧ m = .int .i64 (M zs k)) (fun _ i => len - (intOf i).toNat)
  case atStart => exact ⟨0, by omega, rfl, rfl⟩
  case round =>
    obtain ⟨k, hk, rfl, rfl⟩ := hrel
    by_cases hlt : k + 1 < len
    · have hck : w.cell? ⟨b, off + (k + 1), none⟩ = some (.int .i64 (zs.getD (k + 1) 0)) := HC.out (k + 1) _ (by simp [List.getD, List.getElem?_eq_getElem (show k + 1 < zs.length by have := HL.out; omega)])
      go_wp2_with fail
      go_round
      case rel => exact ⟨k + 1, by omega, by go_num, rfl⟩
      case measure => simp [intOf]; omega
    · obtain rfl : len = k + 1 := by omega
      go_wp2
      go_ret
      exact ⟨rfl, rfl⟩

theorem M_ge (zs : List Int) (k : Nat) : ∀ j, j ≤ k → zs[j]?.getD 0 ≤ M zs k := by
  induction k with
  | zero => intro j hj; have : j = 0 := Nat.le_zero.1 hj; subst this; simp [M]
  | succ k ih =>
    intro j hj
    unfold M
    rcases Nat.lt_or_ge j (k + 1) with h | h
    · have := ih j (by omega)
      split <;> omega
    · obtain rfl : j = k + 1 := by omega
      split <;> omega
theorem M_in (zs : List Int) (k : Nat) : ∃ j, j ≤ k ∧ M zs k = zs[j]?.getD 0 := by
  induction k with
  | zero => exact ⟨0, by omega, by simp [M]⟩
  | succ k ih =>
    obtain ⟨j, hj, he⟩ := ih
    unfold M
    split
    · exact ⟨k + 1, by omega, rfl⟩
    · exact ⟨j, by omega, he⟩

/-- What suits all who ask. -/
def Ag (zs : List Int) (least most : Int) : Int := min (max (M zs (zs.length - 1)) least) most

set_option maxHeartbeats 1600000 in
theorem agree_arg (a : Option Addr) (len cap : Nat) (least most : Int) (w : World) (h : ¬ (1 ≤ least ∧ least ≤ most ∧ most ≤ 1048576)) :
    Calls Try.prog 21 #[.slice a len cap, .int .i64 least, .int .i64 most] w fun e w' => e = .returned (.tuple #[.int .i64 0, .int .i64 2]) ∧ w = w' := by
  by_cases h1 : least < 1
  · clear h
    go_enter Try.func21, Try.ntmps21
    go_wp2
    go_ret2
    exact ⟨rfl, rfl⟩
  by_cases h2 : most < least
  · clear h
    go_enter Try.func21, Try.ntmps21
    go_wp2
    go_ret2
    exact ⟨rfl, rfl⟩
  by_cases h3 : 1048576 < most
  · clear h
    go_enter Try.func21, Try.ntmps21
    go_wp2
    go_ret2
    exact ⟨rfl, rfl⟩
  exact absurd ⟨by omega, by omega, by omega⟩ h

set_option maxHeartbeats 1600000 in
theorem agree_none (a : Option Addr) (cap : Nat) (least most : Int) (w : World) (h1 : 1 ≤ least) (h2 : least ≤ most) (h3 : most ≤ 1048576) :
    Calls Try.prog 21 #[.slice a 0 cap, .int .i64 least, .int .i64 most] w fun e w' => e = .returned (.tuple #[.int .i64 0, .int .i64 7]) ∧ w = w' := by
  go_enter Try.func21, Try.ntmps21
  go_wp2
  go_ret2
  exact ⟨rfl, rfl⟩

set_option maxHeartbeats 1600000 in
theorem ragree_arg (a : Option Addr) (len cap : Nat) (least most : Int) (w : World) (h : ¬ (1 ≤ least ∧ least ≤ most ∧ most ≤ 1048576)) :
    Calls Try.prog 22 #[.slice a len cap, .int .i64 least, .int .i64 most] w fun e w' => e = .returned (.tuple #[.int .i64 0, .int .i64 2]) ∧ w = w' := by
  by_cases h1 : least < 1
  · clear h
    go_enter Try.func22, Try.ntmps22
    go_wp2
    go_ret2
    exact ⟨rfl, rfl⟩
  by_cases h2 : most < least
  · clear h
    go_enter Try.func22, Try.ntmps22
    go_wp2
    go_ret2
    exact ⟨rfl, rfl⟩
  by_cases h3 : 1048576 < most
  · clear h
    go_enter Try.func22, Try.ntmps22
    go_wp2
    go_ret2
    exact ⟨rfl, rfl⟩
  exact absurd ⟨by omega, by omega, by omega⟩ h

set_option maxHeartbeats 1600000 in
theorem ragree_none (a : Option Addr) (cap : Nat) (least most : Int) (w : World) (h1 : 1 ≤ least) (h2 : least ≤ most) (h3 : most ≤ 1048576) :
    Calls Try.prog 22 #[.slice a 0 cap, .int .i64 least, .int .i64 most] w fun e w' => e = .returned (.tuple #[.int .i64 0, .int .i64 7]) ∧ w = w' := by
  go_enter Try.func22, Try.ntmps22
  go_wp2
  go_ret2
  exact ⟨rfl, rfl⟩

set_option maxHeartbeats 1600000 in
theorem agree_is (a : Option Addr) (len cap : Nat) (zs : List Int) (least most : Int) (w : World) (h : Ints .i64 w.heap.size w a zs) (hl : zs.length = len) (hc : len ≤ cap) (hm : cap ≤ 9223372036854775807) (h0 : 0 < len) (h1 : 1 ≤ least) (h2 : least ≤ most) (h3 : most ≤ 1048576) :
    Calls Try.prog 21 #[.slice a len cap, .int .i64 least, .int .i64 most] w fun e w' => e = .returned (.tuple #[.int .i64 (Ag zs least most), .int .i64 0]) ∧ w = w' := by
  have HX := Lib.hid (max_is a len cap zs w h hl hc hm h0)
  have hz : ((len : Int) == 0) = false := by simp; omega
  have hA : Ag zs least most = min (max (M zs (len - 1)) least) most := by unfold Ag; rw [hl]
  have HA := Lib.hid hA
  clear h hl hA
  generalize M zs (len - 1) = m at *
  go_enter Try.func21, Try.ntmps21
  go_wp2_with fail
  refine HX.out.mono ?_
  rintro e w1 ⟨rfl, rfl⟩
  go_wp2
  all_goals go_ret2
  all_goals (refine ⟨?_, rfl⟩; rw [HA.out]; congr 3; simp; first | omega | (split <;> omega))

set_option maxHeartbeats 1600000 in
theorem ragree_is (a : Option Addr) (len cap : Nat) (zs : List Int) (least most : Int) (w : World) (h : Ints .i64 w.heap.size w a zs) (hl : zs.length = len) (hc : len ≤ cap) (hm : cap ≤ 9223372036854775807) (h0 : 0 < len) (h1 : 1 ≤ least) (h2 : least ≤ most) (h3 : most ≤ 1048576) :
    Calls Try.prog 22 #[.slice a len cap, .int .i64 least, .int .i64 most] w fun e w' => e = .returned (.tuple #[.int .i64 (Ag zs least most), .int .i64 0]) ∧ w = w' := by
  have hz : ((len : Int) == 0) = false := by simp; omega
  have hA : Ag zs least most = min (max (M zs (len - 1)) least) most := by unfold Ag; rw [hl]
  have HA := Lib.hid hA
  rcases h with rfl | ⟨b, off, rfl, hb, hcell⟩
  · simp at hl; omega
  have hc0 : w.cell? ⟨b, off, none⟩ = some (.int .i64 (zs.getD 0 0)) := by
    have := hcell 0 (zs.getD 0 0) (by simp [List.getD, List.getElem?_eq_getElem (show 0 < zs.length by omega)])
    simpa using this
  have hlen : (1 : Int) ≤ (len : Int) := by omega
  have hp : (0 : Int) < (len : Int) := by omega
  have HL := Lib.hid hl
  have HC := Lib.hid hcell
  clear hl hcell hA
  go_enter Try.func22, Try.ntmps22
  go_wp2_with fail
  go_loop [8, 9] (fun m i => ∃ k : Nat, k + 1 ≤ len ∧ i = .int .i64 ((k + 1 : Nat) : Int) ∧ m = .int .i64 (M zs k)) (fun _ i => len - (intOf i).toNat)
  case atStart => exact ⟨0, by omega, rfl, rfl⟩
  case round =>
    obtain ⟨k, hk, rfl, rfl⟩ := hrel
    by_cases hlt : k + 1 < len
    · have hck : w.cell? ⟨b, off + (k + 1), none⟩ = some (.int .i64 (zs.getD (k + 1) 0)) := HC.out (k + 1) _ (by simp [List.getD, List.getElem?_eq_getElem (show k + 1 < zs.length by have := HL.out; omega)])
      go_wp2_with fail
      go_round
      case rel => exact ⟨k + 1, by omega, by go_num, rfl⟩
      case measure => simp [intOf]; omega
    · obtain rfl : len = k + 1 := by omega
      have HA2 : Hid (Ag zs least most = min (max (M zs k) least) most) := HA.out
      clear HA
      generalize hM : M zs k = m at *
      clear hM
      go_wp2
      all_goals go_ret2
      all_goals (refine ⟨?_, rfl⟩; rw [HA2.out]; congr 3; simp; first | omega | (split <;> omega))

end Go.Proofs.Ytkknpomdleekoaa
