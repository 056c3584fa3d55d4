/-
  The contracts of package terms.
-/
import Derived.Test.YtkknpomdleekoaaRows
import Derived.WalkKit
import Derived.WalkSpells
import Derived.WalkLawsBesides
import Derived.Deep.QuietTactic
import Derived.BigQuiet
import Derived.Deep.RegionHeld3
import Derived.Lib.Hide
import Derived.OpenShut
namespace Go.Proofs.Ytkknpomdleekoaa
open Go.RowKit
set_option linter.unusedVariables false
set_option linter.unusedSimpArgs false

/-- Terms that are valid. -/
def Ok (d s u c : Int) : Prop := 1 ≤ s ∧ s ≤ 1048576 ∧ 0 ≤ c ∧ c ≤ 100 ∧ 0 ≤ u ∧ u ≤ c ∧ s ≤ d ∧ d + (c - u) * s ≤ 1099511627776
abbrev T (d s u c : Int) : Value := .agg #[.int .i64 d, .int .i64 s, .int .i64 u, .int .i64 c]

theorem mul_bound {s u c : Int} (h1 : 1 ≤ s) (h2 : s ≤ 1048576) (h3 : 0 ≤ u) (h4 : u ≤ c) (h5 : c ≤ 100) : 0 ≤ (c - u) * s ∧ (c - u) * s ≤ 104857600 := by
  refine ⟨Int.mul_nonneg (by omega) (by omega), ?_⟩
  calc (c - u) * s ≤ 100 * 1048576 := Int.mul_le_mul (by omega) h2 (by omega) (by omega)
    _ = 104857600 := by decide

set_option maxHeartbeats 400000 in
theorem left_is (d s u c : Int) (w : World) (hm0 : 0 ≤ (c - u) * s) (hm1 : (c - u) * s ≤ 104857600) (hu : 0 ≤ u) (hc : u ≤ c) (hc2 : c ≤ 100) :
    Calls Try.prog 23 #[T d s u c] w fun e w' => e = .returned (.int .i64 ((c - u) * s)) ∧ w' = w.alloc (.cells #[.int .i64 d, .int .i64 s, .int .i64 u, .int .i64 c] 25) := by
  go_enter Try.func23, Try.ntmps23
  go_wp2
  go_ret
  exact ⟨rfl, rfl⟩

set_option maxHeartbeats 800000 in
theorem right_yes (d s u c : Int) (w : World) (h : Ok d s u c) :
    Calls Try.prog 13 #[T d s u c] w fun e w' => e = .returned (.bool true) ∧ Below w.heap.size w w' := by
  obtain ⟨h1, h2, h3, h4, h5, h6, h7, h8⟩ := h
  obtain ⟨hm0, hm1⟩ := mul_bound h1 h2 h5 h6 h4
  have hd : decide (s ≤ d) = true := by simpa using h7
  go_enter Try.func13, Try.ntmps13
  go_wp2
  have hw : IntKind.i64.wrap (1099511627776 - (c - u) * s) = 1099511627776 - (c - u) * s := by rw [IntKind.wrap_i64]; omega
  have hle : d ≤ 1099511627776 - (c - u) * s := by omega
  go_region_held3 (fun w' => w'.cell? ⟨w.heap.size, 0, none⟩ = some (.int .i64 d) ∧ w'.cell? ⟨w.heap.size, 1, none⟩ = some (.int .i64 s) ∧ w'.cell? ⟨w.heap.size, 2, none⟩ = some (.int .i64 u) ∧ w'.cell? ⟨w.heap.size, 3, none⟩ = some (.int .i64 c)) (go_keep)
    (first | (go_at_call 23; refine (left_is d s u c _ hm0 hm1 h5 h6 h4).mono ?_; rintro e w' ⟨rfl, rfl⟩))
  go_wp2
  go_ret
  refine ⟨by simp, ?_⟩
  repeat (first | exact Below.refl _ _ | (refine Below.alloc ?_ (by simp) _) | (refine Below.drew ?_) | (refine Below.setCell ?_ (by simp) _))

set_option maxHeartbeats 1600000 in
theorem right_no (d s u c : Int) (w : World) (h : ¬ Ok d s u c) :
    Calls Try.prog 13 #[T d s u c] w fun e w' => e = .returned (.bool false) ∧ Below w.heap.size w w' := by
  by_cases h1 : s < 1
  · go_enter Try.func13, Try.ntmps13
    go_wp2
    go_ret
    exact ⟨rfl, (Below.refl _ _).alloc (by simp) _⟩
  by_cases h2 : 1048576 < s
  · go_enter Try.func13, Try.ntmps13
    go_wp2
    go_ret
    exact ⟨rfl, (Below.refl _ _).alloc (by simp) _⟩
  by_cases h3 : c < 0
  · go_enter Try.func13, Try.ntmps13
    go_wp2
    go_ret
    exact ⟨rfl, (Below.refl _ _).alloc (by simp) _⟩
  by_cases h4 : 100 < c
  · go_enter Try.func13, Try.ntmps13
    go_wp2
    go_ret
    exact ⟨rfl, (Below.refl _ _).alloc (by simp) _⟩
  by_cases h5 : u < 0
  · go_enter Try.func13, Try.ntmps13
    go_wp2
    go_ret
    exact ⟨rfl, (Below.refl _ _).alloc (by simp) _⟩
  by_cases h6 : c < u
  · go_enter Try.func13, Try.ntmps13
    go_wp2
    go_ret
    exact ⟨rfl, (Below.refl _ _).alloc (by simp) _⟩
  by_cases h7 : s ≤ d
  · obtain ⟨hm0, hm1⟩ := mul_bound (s := s) (u := u) (c := c) (by omega) (by omega) (by omega) (by omega) (by omega)
    have h8 : 1099511627776 - (c - u) * s < d := by
      by_cases h8 : 1099511627776 - (c - u) * s < d
      · exact h8
      · exact absurd ⟨by omega, by omega, by omega, by omega, by omega, by omega, h7, by omega⟩ h
    have hd : decide (s ≤ d) = true := by simpa using h7
    have h8' : ¬ d ≤ 1099511627776 - (c - u) * s := by omega
    have h8b : decide (d ≤ 1099511627776 - (c - u) * s) = false := by simpa using h8
    clear h
    go_enter Try.func13, Try.ntmps13
    go_wp2
    have hw : IntKind.i64.wrap (1099511627776 - (c - u) * s) = 1099511627776 - (c - u) * s := by rw [IntKind.wrap_i64]; omega
    go_region_held3 (fun w' => w'.cell? ⟨w.heap.size, 0, none⟩ = some (.int .i64 d) ∧ w'.cell? ⟨w.heap.size, 1, none⟩ = some (.int .i64 s) ∧ w'.cell? ⟨w.heap.size, 2, none⟩ = some (.int .i64 u) ∧ w'.cell? ⟨w.heap.size, 3, none⟩ = some (.int .i64 c)) (go_keep)
      (first | (go_at_call 23; refine (left_is d s u c _ hm0 hm1 (by omega) (by omega) (by omega)).mono ?_; rintro e w' ⟨rfl, rfl⟩))
    go_wp2
    go_ret
    refine ⟨by simp [h8b], ?_⟩
    repeat (first | exact Below.refl _ _ | (refine Below.alloc ?_ (by simp) _) | (refine Below.drew ?_) | (refine Below.setCell ?_ (by simp) _))
  · have hd : decide (s ≤ d) = false := by simpa using h7
    go_enter Try.func13, Try.ntmps13
    go_wp2
    go_quiet (fail)
    go_wp2
    go_ret
    refine ⟨rfl, ?_⟩
    exact below_drewN ((Below.refl _ _).alloc (by simp) _) _

/-- What a block has is there still behind a call that leaves all old blocks as they were. -/
theorem kept {w w1 : World} {g : Nat} {cs : Array Value} {t : Nat} (hb : Below w.heap.size w w1) (h : w.heap[g]? = some (.cells cs t (0, 0))) : w1.heap[g]? = some (.cells cs t (0, 0)) :=
  (hb.block g (Array.getElem?_eq_some_iff.1 h).1).trans h
theorem cell_at {w : World} {g : Nat} {t : TypeId} {cs : Array Value} (h : w.heap[g]? = some (.cells cs t (0, 0))) (i : Nat) : w.cell? ⟨g, i, none⟩ = cs[i]? := cell_of_row w g i cs t (0, 0) h
theorem frozen_at {w : World} {g : Nat} {t : TypeId} {cs : Array Value} (h : w.heap[g]? = some (.cells cs t (0, 0))) (i : Nat) : w.frozen? ⟨g, i, none⟩ = false := by simp [World.frozen?, h]
/-- A block of four cells. -/
theorem four {w : World} {g : Nat} {t : TypeId} {a b c d : Value} (h : w.heap[g]? = some (.cells #[a, b, c, d] t (0, 0))) :
    (w.cell? ⟨g, 0, none⟩ = some a ∧ w.cell? ⟨g, 1, none⟩ = some b ∧ w.cell? ⟨g, 2, none⟩ = some c ∧ w.cell? ⟨g, 3, none⟩ = some d) ∧
    (w.frozen? ⟨g, 0, none⟩ = false ∧ w.frozen? ⟨g, 1, none⟩ = false ∧ w.frozen? ⟨g, 2, none⟩ = false ∧ w.frozen? ⟨g, 3, none⟩ = false) :=
  ⟨⟨cell_at h 0, cell_at h 1, cell_at h 2, cell_at h 3⟩, frozen_at h 0, frozen_at h 1, frozen_at h 2, frozen_at h 3⟩

set_option maxHeartbeats 800000 in
theorem over_is (d s u c now : Int) (w : World) (h : Ok d s u c) :
    Calls Try.prog 15 #[T d s u c, .int .i64 now] w fun e w' => e = .returned (.bool (decide (d ≤ now))) ∧ Below w.heap.size w w' := by
  go_enter Try.func15, Try.ntmps15
  go_wp2_with fail
  refine (right_yes d s u c _ h).mono ?_
  rintro e w1 ⟨rfl, hb⟩
  obtain ⟨⟨k0, k1, k2, k3⟩, _⟩ := four (kept hb (heap_alloc_new w _))
  go_wp2
  go_ret
  exact ⟨rfl, ((Below.refl _ _).alloc (by simp) _).trans (hb.mono (by simp))⟩

set_option maxHeartbeats 800000 in
theorem over_no (d s u c now : Int) (w : World) (h : ¬ Ok d s u c) :
    Calls Try.prog 15 #[T d s u c, .int .i64 now] w fun e w' => e = .returned (.bool false) ∧ Below w.heap.size w w' := by
  go_enter Try.func15, Try.ntmps15
  go_wp2_with fail
  refine (right_no d s u c _ h).mono ?_
  rintro e w1 ⟨rfl, hb⟩
  go_wp2
  go_ret
  exact ⟨rfl, ((Below.refl _ _).alloc (by simp) _).trans (hb.mono (by simp))⟩

set_option maxHeartbeats 800000 in
theorem last_no (d s u c : Int) (w : World) (h : ¬ Ok d s u c) :
    Calls Try.prog 17 #[T d s u c] w fun e w' => e = .returned (.int .i64 0) ∧ Below w.heap.size w w' := by
  go_enter Try.func17, Try.ntmps17
  go_wp2_with fail
  refine (right_no d s u c _ h).mono ?_
  rintro e w1 ⟨rfl, hb⟩
  go_wp2
  go_ret
  exact ⟨rfl, ((Below.refl _ _).alloc (by simp) _).trans (hb.mono (by simp))⟩

set_option maxHeartbeats 800000 in
theorem last_is (d s u c : Int) (w : World) (h : Ok d s u c) :
    Calls Try.prog 17 #[T d s u c] w fun e w' => e = .returned (.int .i64 (d + (c - u) * s)) ∧ Below w.heap.size w w' := by
  obtain ⟨h1, h2, h3, h4, h5, h6, h7, h8⟩ := id h
  obtain ⟨hm0, hm1⟩ := mul_bound h1 h2 h5 h6 h4
  go_enter Try.func17, Try.ntmps17
  go_wp2_with fail
  refine (right_yes d s u c _ h).mono ?_
  rintro e w1 ⟨rfl, hb⟩
  have hbl := kept hb (heap_alloc_new w _)
  obtain ⟨⟨k0, k1, k2, k3⟩, _⟩ := four hbl
  have hlt : w.heap.size < w1.heap.size := (Array.getElem?_eq_some_iff.1 hbl).1
  have hB := ((Below.refl w.heap.size w).alloc (Nat.le_refl _) _).trans (hb.mono (by simp))
  have hB' := Lib.hid hB
  have hw : IntKind.i64.wrap (d + (c - u) * s) = d + (c - u) * s := by rw [IntKind.wrap_i64]; omega
  clear hbl hb hB h
  go_wp2_with fail
  go_region_held3 (fun w' => w'.cell? ⟨w.heap.size, 0, none⟩ = some (.int .i64 d) ∧ w'.cell? ⟨w.heap.size, 1, none⟩ = some (.int .i64 s) ∧ w'.cell? ⟨w.heap.size, 2, none⟩ = some (.int .i64 u) ∧ w'.cell? ⟨w.heap.size, 3, none⟩ = some (.int .i64 c)) (go_keep)
    (first | (go_at_call 23; refine (left_is d s u c _ hm0 hm1 h5 h6 h4).mono ?_; rintro e w' ⟨rfl, rfl⟩))
  go_wp2
  go_ret
  exact ⟨rfl, (hB'.out.drew).alloc (Nat.le_trans hB'.out.size (by simp)) _⟩

end Go.Proofs.Ytkknpomdleekoaa
