/-
  The reference of air: Take.
-/
import Derived.Test.YtehgbpepaakanaaT
namespace Go.Proofs.Ytehgbpepaakanaa
open Go.RowKit Go.Joins
set_option linter.unusedVariables false
set_option linter.unusedSimpArgs false

theorem three_box (w : World) (A B C : Array Value) (tA tB tC : TypeId) : ∃ w3, ((w.alloc (.cells A tA)).alloc (.cells B tB)).alloc (.cells C tC) = w3 ∧ w3.heap[w.heap.size]? = some (.cells A tA (0, 0)) ∧ w3.heap[w.heap.size + 1]? = some (.cells B tB (0, 0)) ∧ w3.heap[w.heap.size + 1 + 1]? = some (.cells C tC (0, 0)) ∧ Below w.heap.size w w3 := by
  have h1 := heap_alloc_new w (.cells A tA)
  have h2 := heap_alloc_new (w.alloc (.cells A tA)) (.cells B tB)
  have h3 := heap_alloc_new ((w.alloc (.cells A tA)).alloc (.cells B tB)) (.cells C tC)
  rw [World.size_alloc] at h2 h3
  rw [World.size_alloc] at h3
  exact ⟨_, rfl, blk_alloc (blk_alloc h1 _) _, blk_alloc h2 _, h3, (((Below.refl _ w).alloc (Nat.le_refl _) _).alloc (by simp) _).alloc (by simp; omega) _⟩

set_option maxHeartbeats 1000000 in
theorem refTake_arg (room t i : Int) (w : World) (h : 17 ≤ t) (al : Option Addr) (nl cl : Nat) (xs : List LX) (hR : RL w al nl cl xs) :
    Calls Try.prog 27 #[.agg #[.slice al nl cl, .int .i64 room], .int .u8 t, .int .i64 i] w fun e w' => e = .returned (.tuple #[.agg #[.slice al nl cl, .int .i64 room], .agg #[.int .u8 0, .int .u8 0, .slice none 0 0], .int .i64 2]) ∧ Below w.heap.size w w' := by
  obtain ⟨w3, hw3, b1, b2, b3, hB⟩ := three_box w #[.slice al nl cl, .int .i64 room] #[.slice none 0 0, .int .i64 0] #[.int .u8 0, .int .u8 0, .slice none 0 0] 38 38 48
  have H1 := Lib.hid b1
  have H2 := Lib.hid b2
  have H3 := Lib.hid b3
  have HW := Lib.hid hw3
  have HF := Lib.hid (refFind al nl cl xs room t i w3 (hR.below hB))
  clear b1 b2 b3 hw3 hR
  go_enter Try.func27, Try.ntmps27
  go_wp2_with fail
  rw [HW.out]
  refine HF.out.mono ?_
  rintro e w4 ⟨hB4, hr⟩
  obtain ⟨r, rfl⟩ : ∃ r : Int, e = .returned (.int .i64 r) := by
    rcases hr with ⟨k, x, rfl, _⟩ | ⟨rfl, _⟩
    · exact ⟨_, rfl⟩
    · exact ⟨_, rfl⟩
  have hm1 := H1.out
  have hm2 := H2.out
  have hm3 := H3.out
  have c1 := (hB4.block _ (lt_of_heap hm1)).trans hm1
  have c2 := (hB4.block _ (lt_of_heap hm2)).trans hm2
  have c3 := (hB4.block _ (lt_of_heap hm3)).trans hm3
  have x0 := blk_cell c1 0
  have x1 := blk_cell c1 1
  have y0 := blk_cell c2 0
  have y1 := blk_cell c2 1
  have z0 := blk_cell c3 0
  have z1 := blk_cell c3 1
  have z2 := blk_cell c3 2
  have f0 := blk_frozen c2 0
  have f1 := blk_frozen c2 1
  have g0 := blk_frozen c3 0
  have g1 := blk_frozen c3 1
  have g2 := blk_frozen c3 2
  simp at x0 x1 y0 y1 z0 z1 z2
  have C2 := Lib.hid c2
  have C3 := Lib.hid c3
  clear hm1 hm2 hm3 c1 c2 c3 hr
  go_wp2_with fail
  have t1 := blk_far (blk_far (blk_far (blk_set (blk_set C2.out 0 (.slice al nl cl)) 1 (.int .i64 room)) ⟨w.heap.size + 1 + 1, 0, none⟩ (by show w.heap.size + 1 ≠ w.heap.size + 1 + 1; omega) (.int .u8 0)) ⟨w.heap.size + 1 + 1, 1, none⟩ (by show w.heap.size + 1 ≠ w.heap.size + 1 + 1; omega) (.int .u8 0)) ⟨w.heap.size + 1 + 1, 2, none⟩ (by show w.heap.size + 1 ≠ w.heap.size + 1 + 1; omega) (.slice none 0 0)
  have t2 := blk_set (blk_set (blk_set (blk_far (blk_far C3.out ⟨w.heap.size + 1, 0, none⟩ (by show w.heap.size + 1 + 1 ≠ w.heap.size + 1; omega) (.slice al nl cl)) ⟨w.heap.size + 1, 1, none⟩ (by show w.heap.size + 1 + 1 ≠ w.heap.size + 1; omega) (.int .i64 room)) 0 (.int .u8 0)) 1 (.int .u8 0)) 2 (.slice none 0 0)
  simp at t1 t2
  have e0 := blk_cell t1 0
  have e1 := blk_cell t1 1
  have d0 := blk_cell t2 0
  have d1 := blk_cell t2 1
  have d2 := blk_cell t2 2
  simp at e0 e1 d0 d1 d2
  have hB04 := hB.trans (hB4.mono hB.size)
  exact bodyPost_ret (v := .tuple #[.agg #[.slice al nl cl, .int .i64 room], .agg #[.int .u8 0, .int .u8 0, .slice none 0 0], .int .i64 2]) (by simp [results, Try.results27, go_sem, e0, e1, d0, d1, d2]) rfl ⟨rfl, ((((hB04.setCell (p := ⟨w.heap.size + 1, 0, none⟩) (Nat.le_succ _) _).setCell (p := ⟨w.heap.size + 1, 1, none⟩) (Nat.le_succ _) _).setCell (p := ⟨w.heap.size + 1 + 1, 0, none⟩) (by show w.heap.size ≤ w.heap.size + 1 + 1; omega) _).setCell (p := ⟨w.heap.size + 1 + 1, 1, none⟩) (by show w.heap.size ≤ w.heap.size + 1 + 1; omega) _).setCell (p := ⟨w.heap.size + 1 + 1, 2, none⟩) (by show w.heap.size ≤ w.heap.size + 1 + 1; omega) _⟩

set_option maxHeartbeats 1000000 in
theorem refTake_none (room t i : Int) (w : World) (h : t < 17) (al : Option Addr) (nl cl : Nat) (xs : List LX) (hR : RL w al nl cl xs) (hi : i < 0 ∨ ((toEnd t xs).length : Int) ≤ i) :
    Calls Try.prog 27 #[.agg #[.slice al nl cl, .int .i64 room], .int .u8 t, .int .i64 i] w fun e w' => e = .returned (.tuple #[.agg #[.slice al nl cl, .int .i64 room], .agg #[.int .u8 0, .int .u8 0, .slice none 0 0], .int .i64 7]) ∧ Below w.heap.size w w' := by
  obtain ⟨w3, hw3, b1, b2, b3, hB⟩ := three_box w #[.slice al nl cl, .int .i64 room] #[.slice none 0 0, .int .i64 0] #[.int .u8 0, .int .u8 0, .slice none 0 0] 38 38 48
  have H1 := Lib.hid b1
  have H2 := Lib.hid b2
  have H3 := Lib.hid b3
  have HW := Lib.hid hw3
  have HF := Lib.hid (refFind al nl cl xs room t i w3 (hR.below hB))
  clear b1 b2 b3 hw3 hR
  go_enter Try.func27, Try.ntmps27
  go_wp2_with fail
  rw [HW.out]
  refine HF.out.mono ?_
  rintro e w4 ⟨hB4, hr⟩
  obtain rfl : e = .returned (.int .i64 (-1)) := by
    rcases hr with ⟨k, x, rfl, hk, hx, hl⟩ | ⟨rfl, _⟩
    · exfalso
      have h1 := toEnd_yes t xs k x hk hx
      have h2 : (toEnd t (xs.take (k + 1))).length ≤ (toEnd t xs).length := ((List.take_sublist _ _).filter _).length_le
      rw [h1] at h2
      simp at h2
      omega
    · rfl
  have hn17 : ¬ 17 ≤ t := by omega
  have hm1 := H1.out
  have hm2 := H2.out
  have hm3 := H3.out
  have c1 := (hB4.block _ (lt_of_heap hm1)).trans hm1
  have c2 := (hB4.block _ (lt_of_heap hm2)).trans hm2
  have c3 := (hB4.block _ (lt_of_heap hm3)).trans hm3
  have x0 := blk_cell c1 0
  have x1 := blk_cell c1 1
  have y0 := blk_cell c2 0
  have y1 := blk_cell c2 1
  have z0 := blk_cell c3 0
  have z1 := blk_cell c3 1
  have z2 := blk_cell c3 2
  have f0 := blk_frozen c2 0
  have f1 := blk_frozen c2 1
  have g0 := blk_frozen c3 0
  have g1 := blk_frozen c3 1
  have g2 := blk_frozen c3 2
  simp at x0 x1 y0 y1 z0 z1 z2
  have C2 := Lib.hid c2
  have C3 := Lib.hid c3
  clear hm1 hm2 hm3 c1 c2 c3 hr
  go_wp2_with fail
  have t1 := blk_far (blk_far (blk_far (blk_set (blk_set C2.out 0 (.slice al nl cl)) 1 (.int .i64 room)) ⟨w.heap.size + 1 + 1, 0, none⟩ (by show w.heap.size + 1 ≠ w.heap.size + 1 + 1; omega) (.int .u8 0)) ⟨w.heap.size + 1 + 1, 1, none⟩ (by show w.heap.size + 1 ≠ w.heap.size + 1 + 1; omega) (.int .u8 0)) ⟨w.heap.size + 1 + 1, 2, none⟩ (by show w.heap.size + 1 ≠ w.heap.size + 1 + 1; omega) (.slice none 0 0)
  have t2 := blk_set (blk_set (blk_set (blk_far (blk_far C3.out ⟨w.heap.size + 1, 0, none⟩ (by show w.heap.size + 1 + 1 ≠ w.heap.size + 1; omega) (.slice al nl cl)) ⟨w.heap.size + 1, 1, none⟩ (by show w.heap.size + 1 + 1 ≠ w.heap.size + 1; omega) (.int .i64 room)) 0 (.int .u8 0)) 1 (.int .u8 0)) 2 (.slice none 0 0)
  simp at t1 t2
  have e0 := blk_cell t1 0
  have e1 := blk_cell t1 1
  have d0 := blk_cell t2 0
  have d1 := blk_cell t2 1
  have d2 := blk_cell t2 2
  simp at e0 e1 d0 d1 d2
  have hB04 := hB.trans (hB4.mono hB.size)
  exact bodyPost_ret (v := .tuple #[.agg #[.slice al nl cl, .int .i64 room], .agg #[.int .u8 0, .int .u8 0, .slice none 0 0], .int .i64 7]) (by simp [results, Try.results27, go_sem, e0, e1, d0, d1, d2]) rfl ⟨rfl, ((((hB04.setCell (p := ⟨w.heap.size + 1, 0, none⟩) (Nat.le_succ _) _).setCell (p := ⟨w.heap.size + 1, 1, none⟩) (Nat.le_succ _) _).setCell (p := ⟨w.heap.size + 1 + 1, 0, none⟩) (by show w.heap.size ≤ w.heap.size + 1 + 1; omega) _).setCell (p := ⟨w.heap.size + 1 + 1, 1, none⟩) (by show w.heap.size ≤ w.heap.size + 1 + 1; omega) _).setCell (p := ⟨w.heap.size + 1 + 1, 2, none⟩) (by show w.heap.size ≤ w.heap.size + 1 + 1; omega) _⟩

end Go.Proofs.Ytehgbpepaakanaa
