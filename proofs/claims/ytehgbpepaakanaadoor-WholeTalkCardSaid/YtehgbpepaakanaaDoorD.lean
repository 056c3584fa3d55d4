/-
  Air: good, row, New, Len.
-/
import Derived.Test.YtehgbpepaakanaaDoorC
import Derived.Deep.RegionWith
import Derived.Deep.CutRange
namespace Go.Proofs.YtehgbpepaakanaaDoor
open Go.RowKit
set_option linter.unusedVariables false
set_option maxRecDepth 20000
set_option linter.unusedSimpArgs false

/-- No air, or air that no call made. -/
def ABad (w : World) (p : Option Addr) : Prop := p = none ∨ ∃ A, p = some ⟨A, 0, none⟩ ∧ w.cell? ⟨A, 0, none⟩ = some (.pointer none)
theorem ABad.below {w w' : World} {p : Option Addr} (h : ABad w p) (hb : Below w.heap.size w w') : ABad w' p := by
  rcases h with h | ⟨b, h, hc⟩
  · exact .inl h
  · exact .inr ⟨b, h, (hb.cell (p := ⟨b, 0, none⟩) (World.block_lt_of_cell? _ _ hc)).trans hc⟩

set_option maxHeartbeats 400000 in
theorem aGood_yes (A b0 : Nat) (w : World) (hc : w.cell? ⟨A, 0, none⟩ = some (.pointer (some ⟨b0, 0, none⟩))) :
    Calls Tryd.prog 53 #[.pointer (some ⟨A, 0, none⟩)] w fun e w' => e = .returned (.bool true) ∧ w = w' := by
  go_enter Tryd.func53, Tryd.ntmps53
  go_wp2
  go_ret
  exact ⟨rfl, rfl⟩
set_option maxHeartbeats 400000 in
theorem aGood_no (p : Option Addr) (w : World) (h : ABad w p) :
    Calls Tryd.prog 53 #[.pointer p] w fun e w' => e = .returned (.bool false) ∧ w = w' := by
  rcases h with rfl | ⟨A, rfl, hc⟩
  · go_enter Tryd.func53, Tryd.ntmps53
    go_wp2
    go_ret
    exact ⟨rfl, rfl⟩
  · go_enter Tryd.func53, Tryd.ntmps53
    go_wp2
    go_ret
    exact ⟨rfl, rfl⟩

set_option maxHeartbeats 400000 in
theorem row_bad (p : Option Addr) (t : Int) (w : World) (h : ABad w p) :
    Calls Tryd.prog 31 #[.pointer p, .int .u8 t] w fun e w' => e = .returned (.tuple #[.pointer none, .int .i64 1]) ∧ w = w' := by
  go_enter Tryd.func31, Tryd.ntmps31
  go_wp2_with (go_at_call 53; refine (aGood_no _ _ h).mono ?_; rintro e w' ⟨rfl, rfl⟩)
  go_ret2
  exact ⟨rfl, rfl⟩

theorem AirW.c0 {w : World} {A : Nat} {room : Int} {b : Nat → Nat} {v : Nat → Value} {L : Nat → List LX} (h : AirW w A room b v L) (i : Nat) (hi : i < 17) : w.cell? ⟨A, i, none⟩ = some (.pointer (some ⟨b i, 0, none⟩)) := by
  rw [blk_cell h.air]; exact ptrs_get b i hi

set_option maxHeartbeats 400000 in
theorem row_arg (A b0 : Nat) (t : Nat) (w : World) (hc : w.cell? ⟨A, 0, none⟩ = some (.pointer (some ⟨b0, 0, none⟩))) (ht : 17 ≤ t) (ht2 : t ≤ 255) :
    Calls Tryd.prog 31 #[.pointer (some ⟨A, 0, none⟩), .int .u8 t] w fun e w' => e = .returned (.tuple #[.pointer none, .int .i64 2]) ∧ w = w' := by
  have h1 : (17 : Int) ≤ (t : Int) := by omega
  go_enter Tryd.func31, Tryd.ntmps31
  go_wp2_with (go_at_call 53; refine (aGood_yes _ _ _ hc).mono ?_; rintro e w' ⟨rfl, rfl⟩)
  go_ret2
  exact ⟨rfl, rfl⟩

set_option maxHeartbeats 400000 in
theorem row_ok (A b0 bt : Nat) (t : Nat) (w : World) (hc : w.cell? ⟨A, 0, none⟩ = some (.pointer (some ⟨b0, 0, none⟩))) (hct : w.cell? ⟨A, t, none⟩ = some (.pointer (some ⟨bt, 0, none⟩))) (ht : t < 17) :
    Calls Tryd.prog 31 #[.pointer (some ⟨A, 0, none⟩), .int .u8 t] w fun e w' => e = .returned (.tuple #[.pointer (some ⟨bt, 0, none⟩), .int .i64 0]) ∧ w = w' := by
  have h1 : ¬ (17 : Int) ≤ (t : Int) := by omega
  have h2 : (t : Int) < 17 := by omega
  go_enter Tryd.func31, Tryd.ntmps31
  go_wp2_with (go_at_call 53; refine (aGood_yes _ _ _ hc).mono ?_; rintro e w' ⟨rfl, rfl⟩)
  go_ret2
  exact ⟨rfl, rfl⟩

set_option maxHeartbeats 400000 in
theorem rLen_nil (w : World) : Calls Tryd.prog 42 #[.pointer none] w fun e w' => e = .returned (.int .i64 0) ∧ w = w' := by
  go_enter Tryd.func42, Tryd.ntmps42
  go_wp2_with (go_at_call 54; refine (rGood_nil _).mono ?_; rintro e w' ⟨rfl, rfl⟩)
  go_ret
  exact ⟨rfl, rfl⟩

set_option maxHeartbeats 400000 in
theorem aLen_bad (p : Option Addr) (t : Int) (w : World) (h : ABad w p) :
    Calls Tryd.prog 18 #[.pointer p, .int .u8 t] w fun e w' => e = .returned (.int .i64 0) ∧ w = w' := by
  go_enter Tryd.func18, Tryd.ntmps18
  go_wp2_with (first | (go_at_call 31; refine (row_bad _ _ _ h).mono ?_; rintro e w' ⟨rfl, rfl⟩) | (go_at_call 42; refine (rLen_nil _).mono ?_; rintro e w' ⟨rfl, rfl⟩))
  go_ret
  exact ⟨rfl, rfl⟩

set_option maxHeartbeats 400000 in
theorem aLen_arg (P : Nat → Prop) (A : Nat) (room : Int) (st : Nat → List Lt) (t : Nat) (w : World) (h : AirAt w P A room st) (ht : 17 ≤ t) (ht2 : t ≤ 255) :
    Calls Tryd.prog 18 #[.pointer (some ⟨A, 0, none⟩), .int .u8 t] w fun e w' => e = .returned (.int .i64 0) ∧ w = w' := by
  obtain ⟨b, v, L, hA, hP, hst⟩ := h
  have c0 := hA.c0 0 (by decide)
  clear hA hP hst
  go_enter Tryd.func18, Tryd.ntmps18
  go_wp2_with (first | (go_at_call 31; refine (row_arg _ _ _ _ c0 ht ht2).mono ?_; rintro e w' ⟨rfl, rfl⟩) | (go_at_call 42; refine (rLen_nil _).mono ?_; rintro e w' ⟨rfl, rfl⟩))
  go_ret
  exact ⟨rfl, rfl⟩

set_option maxHeartbeats 400000 in
theorem aLen (P : Nat → Prop) (A : Nat) (room : Int) (st : Nat → List Lt) (t : Nat) (w : World) (h : AirAt w P A room st) (hr : 0 < room) (ht : t < 17) :
    Calls Tryd.prog 18 #[.pointer (some ⟨A, 0, none⟩), .int .u8 t] w fun e w' => e = .returned (.int .i64 ((st t).length : Nat)) ∧ w = w' := by
  obtain ⟨b, v, L, hA, hP, hst⟩ := h
  have c0 := hA.c0 0 (by decide)
  have ct := hA.c0 t ht
  have hc := Lib.hid (rLen (b t) (v t) room _ w (hA.ring t ht) hr)
  have hl : Hid (((L t).map LX.lv).length = (st t).length) := by rw [Hid, hst t ht]; simp
  clear hA hP hst
  go_enter Tryd.func18, Tryd.ntmps18
  go_wp2_with (first | (go_at_call 31; refine (row_ok _ _ _ _ _ c0 ct ht).mono ?_; rintro e w' ⟨rfl, rfl⟩) | (go_at_call 42; refine hc.out.mono ?_; rintro e w' ⟨rfl, rfl⟩; rw [hl.out]))
  go_ret
  exact ⟨rfl, rfl⟩

/-- The air's array when k rings are made. -/
def parr (A k : Nat) : Array Value := ((List.range 17).map fun i => if i < k then Value.pointer (some ⟨A + 1 + i, 0, none⟩) else .pointer none).toArray
theorem parr_zero (A : Nat) : parr A 0 = #[.pointer none, .pointer none, .pointer none, .pointer none, .pointer none, .pointer none, .pointer none, .pointer none, .pointer none, .pointer none, .pointer none, .pointer none, .pointer none, .pointer none, .pointer none, .pointer none, .pointer none] := rfl
theorem parr_get (A k i : Nat) (h : i < 17) : (parr A k)[i]? = some (if i < k then Value.pointer (some ⟨A + 1 + i, 0, none⟩) else .pointer none) := by
  unfold parr
  rw [List.getElem?_toArray, List.getElem?_map, List.getElem?_range h]
  rfl
theorem parr_size (A k : Nat) : (parr A k).size = 17 := by simp [parr]
theorem parr_set (A k : Nat) (h : k < 17) : (parr A k).setIfInBounds k (.pointer (some ⟨A + 1 + k, 0, none⟩)) = parr A (k + 1) := by
  apply Array.ext
  · simp [parr_size]
  · intro i h1 h2
    have hi : i < 17 := by rw [parr_size] at h2; exact h2
    have e1 := parr_get A (k + 1) i hi
    have e0 := parr_get A k i hi
    rw [Array.getElem?_eq_getElem (by rw [parr_size]; exact hi)] at e0 e1
    simp only [Option.some.injEq] at e0 e1
    rw [e1, Array.getElem_setIfInBounds (by rw [parr_size]; exact hi)]
    by_cases e : k = i
    · subst e; rw [if_pos rfl, if_pos (by omega)]
    · rw [if_neg e, e0]
      by_cases h : i < k
      · rw [if_pos h, if_pos (by omega)]
      · rw [if_neg h, if_neg (by omega)]
theorem parr_all (A : Nat) : parr A 17 = ptrs (fun i => A + 1 + i) := by
  rfl

set_option maxHeartbeats 400000 in
theorem aNew_no (room : Int) (w : World) (h : room < 1 ∨ 1000 < room) :
    Calls Tryd.prog 7 #[.int .i64 room] w fun e w' => e = .returned (.pointer none) ∧ w = w' := by
  rcases h with h | h
  · go_enter Tryd.func7, Tryd.ntmps7
    go_wp2
    go_ret
    exact ⟨rfl, rfl⟩
  · have h' : ¬ room < 1 := by omega
    go_enter Tryd.func7, Tryd.ntmps7
    go_wp2
    go_ret
    exact ⟨rfl, rfl⟩

set_option maxHeartbeats 1000000 in
theorem aNew (room : Int) (w : World) (h1 : 1 ≤ room) (h2 : room ≤ 1000) :
    Calls Tryd.prog 7 #[.int .i64 room] w fun e w' => ∃ A, e = .returned (.pointer (some ⟨A, 0, none⟩)) ∧ AirAt w' (fun k => w.heap.size ≤ k) A room (fun _ => []) ∧ Below w.heap.size w w' := by
  obtain ⟨w1, hw1⟩ : ∃ w1, w.alloc (.cells (parr w.heap.size 0) 89) = w1 := ⟨_, rfl⟩
  have hb0 : w1.heap[w.heap.size]? = some (.cells (parr w.heap.size 0) 89 (0, 0)) := by rw [← hw1]; exact heap_alloc_new w _
  have hB0 : Below w.heap.size w w1 := by rw [← hw1]; exact (Below.refl _ w).alloc (Nat.le_refl _) _
  have hz0 : w1.heap.size = w.heap.size + 1 := by rw [← hw1]; simp
  rw [parr_zero] at hw1
  have HW := Lib.hid hw1
  have HZ := Lib.hid hz0
  clear hw1 hz0
  go_enter Tryd.func7, Tryd.ntmps7
  go_upto_region 4 with fail
  rw [HW.out]
  go_wp2_with fail
  go_loopw [13] (fun ix wr => ∃ k : Nat, k ≤ 17 ∧ ix = .int .i64 k ∧ wr.heap.size = w.heap.size + 1 + k ∧ wr.heap[w.heap.size]? = some (.cells (parr w.heap.size k) 89 (0, 0)) ∧ (∀ i, i < k → wr.heap[w.heap.size + 1 + i]? = some (.cells #[.slice none 0 0, .int .i64 room] 129 (0, 0))) ∧ Below w.heap.size w wr) (fun ix _ => 17 - (intOf ix).toNat)
  case atStart => exact ⟨0, by omega, rfl, HZ.out, hb0, fun i hi => by omega, hB0⟩
  case round =>
    obtain ⟨k, hk, rfl, hz, hA, hR, hB⟩ := hrel
    by_cases hlt : k < 17
    · have c := blk_cell hA k
      rw [parr_get _ _ _ hlt, if_neg (Nat.lt_irrefl _)] at c
      have f := blk_frozen hA k
      have hki : (k : Int) < 17 := by omega
      have hlA := lt_of_heap hA
      have HZ2 := Lib.hid hz
      have HR := Lib.hid hR
      have HA := Lib.hid hA
      clear hz hR hA hb0 hB0
      go_wp2_with fail
      go_region_with ((go_at_call 29; refine (rNew_ok room _ h1 (by omega)).mono ?_; rintro e w2 ⟨rfl, rfl⟩))
      go_wp2_with fail
      go_roundw
      case rel =>
        have hz := HZ2.out
        refine ⟨k + 1, by omega, by go_num, ?_, ?_, fun i hi => ?_, ?_⟩
        · simp [World.setCell]; omega
        · have := blk_set HA.out k (.pointer (some ⟨wr.heap.size, 0, none⟩))
          rw [hz, parr_set _ _ hlt] at this
          rw [hz]
          exact blk_alloc this _
        · by_cases e : i = k
          · subst e
            have := heap_alloc_new (wr.setCell ⟨w.heap.size, i, none⟩ (.pointer (some ⟨wr.heap.size, 0, none⟩))) (.cells #[.slice none 0 0, .int .i64 room] 129)
            have e2 : (wr.setCell ⟨w.heap.size, i, none⟩ (.pointer (some ⟨wr.heap.size, 0, none⟩))).heap.size = w.heap.size + 1 + i := by simp [World.setCell]; omega
            rw [e2] at this
            exact this
          · exact blk_alloc (blk_far (HR.out i (by omega)) ⟨w.heap.size, k, none⟩ (by show w.heap.size + 1 + i ≠ w.heap.size; omega) _) _
        · have hB2 := hB.setCell (p := ⟨w.heap.size, k, none⟩) (Nat.le_refl _) (.pointer (some ⟨wr.heap.size, 0, none⟩))
          exact (hB2.alloc hB2.size _).drew
      case measure => simp [intOf]; omega
    · obtain rfl : k = 17 := by omega
      rw [parr_all] at hA
      go_wp2_with fail
      go_ret
      refine ⟨_, rfl, ⟨fun i => w.heap.size + 1 + i, fun _ => .slice none 0 0, fun _ => [], ⟨hA, fun i hi => ⟨hR i hi, World.ownsRow_nil _ _ _ _⟩, fun i hi x hx => (by simp at hx), fun i j _ _ hij e => hij (by omega), fun i j _ _ _ g hg => by simp [Value.ownBlock] at hg, fun i j _ _ _ x hx => (by simp at hx), fun i hi => List.Pairwise.nil, fun i hi => by simp; omega⟩, ?_, fun i hi => rfl⟩, hB⟩
      rintro q (rfl | ⟨i, hi, (rfl | hq) | ⟨x, hx, _⟩⟩)
      · exact Nat.le_refl _
      · show w.heap.size ≤ w.heap.size + 1 + i
        omega
      · simp [Value.ownBlock] at hq
      · simp at hx

end Go.Proofs.YtehgbpepaakanaaDoor
