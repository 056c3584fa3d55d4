/-
  Air: look.
-/
import Derived.Test.YtehgbpepaakanaaDoorD
import Derived.RegionTactic
namespace Go.Proofs.YtehgbpepaakanaaDoor
open Go.RowKit
set_option linter.unusedVariables false
set_option maxRecDepth 20000
set_option linter.unusedSimpArgs false

theorem zero_box (w : World) : ∃ w1, w.alloc (.cells #[.int .u8 0, .int .u8 0, .slice none 0 0] 37) = w1 ∧ w1.heap[w.heap.size]? = some (.cells #[.int .u8 0, .int .u8 0, .slice none 0 0] 37 (0, 0)) ∧ Below w.heap.size w w1 ∧ w1.heap.size = w.heap.size + 1 :=
  ⟨_, rfl, heap_alloc_new w _, (Below.refl _ w).alloc (Nat.le_refl _) _, by simp⟩

set_option maxHeartbeats 1000000 in
theorem look_bad (p : Option Addr) (t i : Int) (w : World) (h : ABad w p) :
    Calls Tryd.prog 34 #[.pointer p, .int .u8 t, .int .i64 i] w fun e w' => e = .returned (.tuple #[.pointer none, .agg #[.int .u8 0, .int .u8 0, .slice none 0 0], .int .i64 1]) ∧ Below w.heap.size w w' := by
  obtain ⟨w1, hw1, hb, hB, hz⟩ := zero_box w
  have hbad := h.below hB
  have x0 := blk_cell hb 0
  have x1 := blk_cell hb 1
  have x2 := blk_cell hb 2
  have f0 := blk_frozen hb 0
  have f1 := blk_frozen hb 1
  have f2 := blk_frozen hb 2
  simp at x0 x1 x2
  have HB := Lib.hid hb
  clear hb hz
  go_enter Tryd.func34, Tryd.ntmps34
  go_wp2_with (go_at_call 31; (try rw [hw1]); refine (row_bad _ _ _ hbad).mono ?_; rintro e w' ⟨rfl, rfl⟩)
  have s := blk_set (blk_set (blk_set HB.out 0 (.int .u8 0)) 1 (.int .u8 0)) 2 (.slice none 0 0)
  simp at s
  have e0 := blk_cell s 0
  have e1 := blk_cell s 1
  have e2 := blk_cell s 2
  simp at e0 e1 e2
  exact bodyPost_ret (v := .tuple #[.pointer none, .agg #[.int .u8 0, .int .u8 0, .slice none 0 0], .int .i64 1]) (by simp [results, Tryd.results34, go_sem, e0, e1, e2]) rfl ⟨rfl, ((hB.setCell (p := ⟨w.heap.size, 0, none⟩) (Nat.le_refl _) _).setCell (p := ⟨w.heap.size, 1, none⟩) (Nat.le_refl _) _).setCell (p := ⟨w.heap.size, 2, none⟩) (Nat.le_refl _) _⟩

set_option maxHeartbeats 1000000 in
theorem look_arg (A b0 t : Nat) (i : Int) (w : World) (hc : w.cell? ⟨A, 0, none⟩ = some (.pointer (some ⟨b0, 0, none⟩))) (ht : 17 ≤ t) (ht2 : t ≤ 255) :
    Calls Tryd.prog 34 #[.pointer (some ⟨A, 0, none⟩), .int .u8 t, .int .i64 i] w fun e w' => e = .returned (.tuple #[.pointer none, .agg #[.int .u8 0, .int .u8 0, .slice none 0 0], .int .i64 2]) ∧ Below w.heap.size w w' := by
  obtain ⟨w1, hw1, hb, hB, hz⟩ := zero_box w
  have hc1 := (hB.cell (p := ⟨A, 0, none⟩) (World.block_lt_of_cell? _ _ hc)).trans hc
  have x0 := blk_cell hb 0
  have x1 := blk_cell hb 1
  have x2 := blk_cell hb 2
  have f0 := blk_frozen hb 0
  have f1 := blk_frozen hb 1
  have f2 := blk_frozen hb 2
  simp at x0 x1 x2
  have HB := Lib.hid hb
  have HC := Lib.hid hc1
  clear hb hz hc hc1
  go_enter Tryd.func34, Tryd.ntmps34
  go_wp2_with (go_at_call 31; (try rw [hw1]); refine (row_arg _ _ _ _ HC.out ht ht2).mono ?_; rintro e w' ⟨rfl, rfl⟩)
  have s := blk_set (blk_set (blk_set HB.out 0 (.int .u8 0)) 1 (.int .u8 0)) 2 (.slice none 0 0)
  simp at s
  have e0 := blk_cell s 0
  have e1 := blk_cell s 1
  have e2 := blk_cell s 2
  simp at e0 e1 e2
  exact bodyPost_ret (v := .tuple #[.pointer none, .agg #[.int .u8 0, .int .u8 0, .slice none 0 0], .int .i64 2]) (by simp [results, Tryd.results34, go_sem, e0, e1, e2]) rfl ⟨rfl, ((hB.setCell (p := ⟨w.heap.size, 0, none⟩) (Nat.le_refl _) _).setCell (p := ⟨w.heap.size, 1, none⟩) (Nat.le_refl _) _).setCell (p := ⟨w.heap.size, 2, none⟩) (Nat.le_refl _) _⟩

set_option maxHeartbeats 2000000 in
theorem look_of (A b0 bt t : Nat) (vt : Value) (room : Int) (zs : List Lv) (i : Int) (f tt : Int) (a : Option Addr) (m d : Nat) (c : Int) (w : World) (hc : w.cell? ⟨A, 0, none⟩ = some (.pointer (some ⟨b0, 0, none⟩))) (hct : w.cell? ⟨A, t, none⟩ = some (.pointer (some ⟨bt, 0, none⟩))) (ht : t < 17)
    (hat : ∀ w1, Below w.heap.size w w1 → Calls Tryd.prog 56 #[.pointer (some ⟨bt, 0, none⟩), .int .i64 i] w1 fun e w' => e = .returned (.tuple #[.agg #[.int .u8 f, .int .u8 tt, .slice a m d], .int .i64 c]) ∧ Below w1.heap.size w1 w') :
    Calls Tryd.prog 34 #[.pointer (some ⟨A, 0, none⟩), .int .u8 t, .int .i64 i] w fun e w' => e = .returned (.tuple #[.pointer (some ⟨bt, 0, none⟩), .agg #[.int .u8 f, .int .u8 tt, .slice a m d], .int .i64 c]) ∧ Below w.heap.size w w' := by
  obtain ⟨w1, hw1, hb, hB, hz⟩ := zero_box w
  have hc1 := (hB.cell (p := ⟨A, 0, none⟩) (World.block_lt_of_cell? _ _ hc)).trans hc
  have hct1 := (hB.cell (p := ⟨A, t, none⟩) (World.block_lt_of_cell? _ _ hct)).trans hct
  have HAT := Lib.hid (hat w1 hB)
  have HB := Lib.hid hb
  have HC := Lib.hid hc1
  have HCT := Lib.hid hct1
  have hlt1 := lt_of_heap hb
  have HW := Lib.hid hw1
  clear hb hc hc1 hct hct1 hat hz hw1
  go_enter Tryd.func34, Tryd.ntmps34
  go_wp2_with fail
  rw [HW.out]
  refine (row_ok _ _ _ _ _ HC.out HCT.out ht).mono ?_
  rintro e w' ⟨rfl, rfl⟩
  go_wp2_with fail
  refine HAT.out.mono ?_
  rintro e w2 ⟨rfl, hB2⟩
  have hb2 := (hB2.block _ hlt1).trans HB.out
  have hlt2 := lt_of_heap hb2
  have x0 := blk_cell hb2 0
  have x1 := blk_cell hb2 1
  have x2 := blk_cell hb2 2
  have f0 := blk_frozen hb2 0
  have f1 := blk_frozen hb2 1
  have f2 := blk_frozen hb2 2
  simp at x0 x1 x2
  obtain ⟨w3, hw3⟩ : ∃ w3, w2.alloc (.cells #[.int .u8 f, .int .u8 tt, .slice a m d] 37) = w3 := ⟨_, rfl⟩
  have hb3 : w3.heap[w.heap.size]? = some (.cells #[.int .u8 0, .int .u8 0, .slice none 0 0] 37 (0, 0)) := by rw [← hw3]; exact blk_alloc hb2 _
  have hn3 : w3.heap[w2.heap.size]? = some (.cells #[.int .u8 f, .int .u8 tt, .slice a m d] 37 (0, 0)) := by rw [← hw3]; exact heap_alloc_new w2 _
  have hB3 : Below w.heap.size w w3 := by rw [← hw3]; exact (hB.trans (hB2.mono hB.size)).alloc (Nat.le_of_lt hlt2) _
  have hlt3 := lt_of_heap hb3
  have hltn := lt_of_heap hn3
  have y0 := blk_cell hb3 0
  have y1 := blk_cell hb3 1
  have y2 := blk_cell hb3 2
  have g0 := blk_frozen hb3 0
  have g1 := blk_frozen hb3 1
  have g2 := blk_frozen hb3 2
  have n0 := blk_cell hn3 0
  have n1 := blk_cell hn3 1
  have n2 := blk_cell hn3 2
  have k0 := blk_frozen hn3 0
  have k1 := blk_frozen hn3 1
  have k2 := blk_frozen hn3 2
  simp at y0 y1 y2 n0 n1 n2
  have HB3 := Lib.hid hb3
  have HW3 := Lib.hid hw3
  clear hb3 hn3 hw3 hb2 x0 x1 x2
  go_upto_region 5 with fail
  rw [HW3.out]
  go_region
  go_wp2_with fail
  have s := blk_set (blk_set (blk_set HB3.out 0 (.int .u8 f)) 1 (.int .u8 tt)) 2 (.slice a m d)
  simp at s
  have e0 := blk_cell s 0
  have e1 := blk_cell s 1
  have e2 := blk_cell s 2
  simp at e0 e1 e2
  exact bodyPost_ret (v := .tuple #[.pointer (some ⟨bt, 0, none⟩), .agg #[.int .u8 f, .int .u8 tt, .slice a m d], .int .i64 c]) (by simp [results, Tryd.results34, go_sem, e0, e1, e2]) rfl ⟨rfl, (((hB3.setCell (p := ⟨w.heap.size, 0, none⟩) (Nat.le_refl _) _).setCell (p := ⟨w.heap.size, 1, none⟩) (Nat.le_refl _) _).setCell (p := ⟨w.heap.size, 2, none⟩) (Nat.le_refl _) _).drew⟩

end Go.Proofs.YtehgbpepaakanaaDoor
