/-
  The reference of air: Same, Send.
-/
import Derived.Test.YtehgbpepaakanaaM
namespace Go.Proofs.Ytehgbpepaakanaa
open Go.RowKit
set_option linter.unusedVariables false
set_option linter.unusedSimpArgs false

theorem let48_box (f t : Int) (a : Option Addr) (m d : Nat) (w : World) : ∃ w1, w.alloc (.cells #[.int .u8 f, .int .u8 t, .slice a m d] 48) = w1 ∧ w1.heap[w.heap.size]? = some (.cells #[.int .u8 f, .int .u8 t, .slice a m d] 48 (0, 0)) ∧ Below w.heap.size w w1 :=
  ⟨_, rfl, heap_alloc_new w _, (Below.refl _ w).alloc (Nat.le_refl _) _⟩

set_option maxHeartbeats 1000000 in
theorem refSame (f t : Int) (a : Option Addr) (m d : Nat) (a' : Option Addr) (m' d' : Nat) (bs : List Int) (w : World) (h : BR w a m d bs) (h' : BR w a' m' d' bs) :
    Calls Try.prog 17 #[.agg #[.int .u8 f, .int .u8 t, .slice a m d], .agg #[.int .u8 f, .int .u8 t, .slice a' m' d']] w fun e w' => e = .returned (.bool true) ∧ Below w.heap.size w w' := by
  obtain ⟨w1, hw1, hb1, hB1⟩ := let48_box f t a m d w
  obtain ⟨w2, hw2, hb2, hB2⟩ := let48_box f t a' m' d' w1
  have hB := hB1.trans (hB2.mono hB1.size)
  have hb1' := (hB2.block _ (lt_of_heap hb1)).trans hb1
  have x0 := blk_cell hb1' 0
  have x1 := blk_cell hb1' 1
  have x2 := blk_cell hb1' 2
  have y0 := blk_cell hb2 0
  have y1 := blk_cell hb2 1
  have y2 := blk_cell hb2 2
  simp at x0 x1 x2 y0 y1 y2
  have hs : w1.heap.size = w.heap.size + 1 := by rw [← hw1]; simp
  rw [hs] at y0 y1 y2
  have k1 := (h.below hB).str
  have k2 := (h'.below hB).str
  rw [← hw1] at hw2
  have HW := Lib.hid hw2
  clear hb1 hb2 hb1' hw1 hw2 h h' hs hB1 hB2
  go_enter Try.func17, Try.ntmps17
  go_upto_region 1 with fail
  rw [HW.out]
  go_wp2_with fail
  go_ret
  exact ⟨rfl, hB⟩

theorem air_let_box (v : Value) (room f t : Int) (a : Option Addr) (m d : Nat) (w : World) : ∃ w1 w2, w.alloc (.cells #[v, .int .i64 room] 38) = w1 ∧ w1.alloc (.cells #[.int .u8 f, .int .u8 t, .slice a m d] 48) = w2 ∧ w1.heap.size = w.heap.size + 1 ∧ w2.heap.size = w.heap.size + 1 + 1 ∧
    w2.heap[w.heap.size]? = some (.cells #[v, .int .i64 room] 38 (0, 0)) ∧ w2.heap[w.heap.size + 1]? = some (.cells #[.int .u8 f, .int .u8 t, .slice a m d] 48 (0, 0)) ∧ Below w.heap.size w w2 := by
  obtain ⟨w1, hw1, hb1, hB1⟩ := air_box v room w
  obtain ⟨w2, hw2, hb2, hB2⟩ := let48_box f t a m d w1
  have hs : w1.heap.size = w.heap.size + 1 := by rw [← hw1]; simp
  have hs2 : w2.heap.size = w.heap.size + 1 + 1 := by rw [← hw2, World.size_alloc, hs]
  exact ⟨w1, w2, hw1, hw2, hs, hs2, (hB2.block _ (lt_of_heap hb1)).trans hb1, hs ▸ hb2, hB1.trans (hB2.mono hB1.size)⟩

set_option maxHeartbeats 1000000 in
theorem refSend_arg (room f t : Int) (a : Option Addr) (m d : Nat) (w : World) (h : 17 ≤ f ∨ (f < 17 ∧ 17 ≤ t)) (al : Option Addr) (nl cl : Nat) :
    Calls Try.prog 30 #[.agg #[.slice al nl cl, .int .i64 room], .agg #[.int .u8 f, .int .u8 t, .slice a m d]] w fun e w' => e = .returned (.tuple #[.agg #[.slice al nl cl, .int .i64 room], .int .i64 2]) ∧ Below w.heap.size w w' := by
  obtain ⟨w1, w2, hw1, hw2, hs, hs2, hb1, hb2, hB⟩ := air_let_box (.slice al nl cl) room f t a m d w
  have e := heap_alloc_new w2 (.cells #[.slice al nl cl, .int .i64 room] 38)
  rw [hs2] at e
  have e0 := blk_cell e 0
  have e1 := blk_cell e 1
  simp at e0 e1
  have E0 := Lib.hid e0
  have E1 := Lib.hid e1
  rw [← hw1] at hw2
  have HW := Lib.hid hw2
  clear hw1 hw2 e e0 e1 hs hs2 hb1 hb2
  rcases h with h | ⟨h, h'⟩
  · go_enter Try.func30, Try.ntmps30
    go_wp2_with fail
    rw [HW.out]
    have e0 := E0.out
    have e1 := E1.out
    exact bodyPost_ret (v := .tuple #[.agg #[.slice al nl cl, .int .i64 room], .int .i64 2]) (by simp [results, Try.results30, go_sem, e0, e1]) rfl ⟨rfl, hB.alloc hB.size _⟩
  · have h1 : ¬ 17 ≤ f := by omega
    go_enter Try.func30, Try.ntmps30
    go_wp2_with fail
    rw [HW.out]
    have e0 := E0.out
    have e1 := E1.out
    exact bodyPost_ret (v := .tuple #[.agg #[.slice al nl cl, .int .i64 room], .int .i64 2]) (by simp [results, Try.results30, go_sem, e0, e1]) rfl ⟨rfl, hB.alloc hB.size _⟩

set_option maxHeartbeats 1000000 in
theorem refSend_big (room f t : Int) (a : Option Addr) (m d : Nat) (w : World) (h : f < 17) (h' : t < 17) (hm : 4000 < m) (al : Option Addr) (nl cl : Nat) :
    Calls Try.prog 30 #[.agg #[.slice al nl cl, .int .i64 room], .agg #[.int .u8 f, .int .u8 t, .slice a m d]] w fun e w' => e = .returned (.tuple #[.agg #[.slice al nl cl, .int .i64 room], .int .i64 3]) ∧ Below w.heap.size w w' := by
  obtain ⟨w1, w2, hw1, hw2, hs, hs2, hb1, hb2, hB⟩ := air_let_box (.slice al nl cl) room f t a m d w
  have e := heap_alloc_new w2 (.cells #[.slice al nl cl, .int .i64 room] 38)
  rw [hs2] at e
  have e0 := blk_cell e 0
  have e1 := blk_cell e 1
  simp at e0 e1
  have E0 := Lib.hid e0
  have E1 := Lib.hid e1
  rw [← hw1] at hw2
  have HW := Lib.hid hw2
  have h1 : ¬ 17 ≤ f := by omega
  have h2 : ¬ 17 ≤ t := by omega
  have hmi : (4000 : Int) < (m : Int) := by omega
  clear hw1 hw2 e e0 e1 hs hs2 hb1 hb2
  go_enter Try.func30, Try.ntmps30
  go_wp2_with fail
  rw [HW.out]
  have e0 := E0.out
  have e1 := E1.out
  exact bodyPost_ret (v := .tuple #[.agg #[.slice al nl cl, .int .i64 room], .int .i64 3]) (by simp [results, Try.results30, go_sem, e0, e1]) rfl ⟨rfl, hB.alloc hB.size _⟩

end Go.Proofs.Ytehgbpepaakanaa
