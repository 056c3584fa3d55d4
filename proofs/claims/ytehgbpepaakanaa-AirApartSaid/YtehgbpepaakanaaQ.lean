/-
  The reference of air: Send.
-/
import Derived.Test.YtehgbpepaakanaaN
import Derived.Deep.RegionHeld3
namespace Go.Proofs.Ytehgbpepaakanaa
open Go.RowKit
set_option linter.unusedVariables false
set_option linter.unusedSimpArgs false

theorem Try.infoL3 : (Try.prog.info? 48).map (fun i => (i.zero, i.size, i.bytes)) = some (some (.agg #[.int .u8 0, .int .u8 0, .slice none 0 0]), 3, 32) := by kernel_rfl

set_option maxHeartbeats 1000000 in
theorem refSend_full (room f t : Int) (a : Option Addr) (m d : Nat) (w : World) (h : f < 17) (h' : t < 17) (hm : m ≤ 4000) (al : Option Addr) (nl cl : Nat) (xs : List LX) (hR : RL w al nl cl xs) (hroom : room ≤ ((toEnd t xs).length : Int)) :
    Calls Try.prog 30 #[.agg #[.slice al nl cl, .int .i64 room], .agg #[.int .u8 f, .int .u8 t, .slice a m d]] w fun e w' => e = .returned (.tuple #[.agg #[.slice al nl cl, .int .i64 room], .int .i64 6]) ∧ Below w.heap.size w w' := by
  obtain ⟨w1, w2, hw1, hw2, hs, hs2, hb1, hb2, hB⟩ := air_let_box (.slice al nl cl) room f t a m d w
  obtain ⟨w3, hw3⟩ : ∃ w3, w2.alloc (.cells #[.slice none 0 0, .int .i64 0] 38) = w3 := ⟨_, rfl⟩
  have e3 : w3.heap[w2.heap.size]? = some (.cells #[.slice none 0 0, .int .i64 0] 38 (0, 0)) := by rw [← hw3]; exact heap_alloc_new w2 _
  have hB3 : Below w2.heap.size w2 w3 := by rw [← hw3]; exact (Below.refl _ w2).alloc (Nat.le_refl _) _
  rw [← hw1] at hw2
  rw [← hw2] at hw3
  have HW := Lib.hid hw3
  have hlt := lt_of_heap hb1
  have hlt2 := lt_of_heap hb2
  have hb13 := (hB3.block _ hlt).trans hb1
  have hb23 := (hB3.block _ hlt2).trans hb2
  have hB03 := hB.trans (hB3.mono hB.size)
  rw [hs2] at e3
  have HD : Hid (∀ w', Upd (fun _ => False) w3 w' → Below w3.heap.size w3 w' → Calls Try.prog 16 #[.agg #[.slice al nl cl, .int .i64 room], .int .u8 t] w' fun e w4 => e = .returned (.int .i64 ((toEnd t xs).length : Nat)) ∧ Below w.heap.size w w4 ∧
      w4.heap[w.heap.size]? = some (.cells #[.slice al nl cl, .int .i64 room] 38 (0, 0)) ∧ w4.heap[w.heap.size + 1]? = some (.cells #[.int .u8 f, .int .u8 t, .slice a m d] 48 (0, 0)) ∧ w4.heap[w.heap.size + 1 + 1]? = some (.cells #[.slice none 0 0, .int .i64 0] 38 (0, 0))) := by
    intro w' hu hb
    refine (refLen al nl cl xs room t w' ((hR.below hB03).below hb)).mono ?_
    rintro e w4 ⟨rfl, hB4⟩
    have hb4 := hb.trans (hB4.mono hb.size)
    exact ⟨rfl, hB03.trans (hb4.mono hB03.size), (hb4.block _ (lt_of_heap hb13)).trans hb13, (hb4.block _ (lt_of_heap hb23)).trans hb23, (hb4.block _ (lt_of_heap e3)).trans e3⟩
  have x0 := blk_cell hb13 0
  have x1 := blk_cell hb13 1
  have y1 := blk_cell hb23 1
  simp at x0 x1 y1
  have h1 : ¬ 17 ≤ f := by omega
  have h2 : ¬ 17 ≤ t := by omega
  have hmi : ¬ (4000 : Int) < (m : Int) := by omega
  clear hw1 hw2 hw3 hb1 hb2 hs hs2 e3 hb13 hb23 hR hB3 hB
  go_enter Try.func30, Try.ntmps30
  go_upto_region 5 with fail
  rw [HW.out]
  go_region_held3 (fun w' => w'.cell? ⟨w.heap.size, 0, none⟩ = some (.slice al nl cl) ∧ w'.cell? ⟨w.heap.size, 1, none⟩ = some (.int .i64 room) ∧ w'.cell? ⟨w.heap.size + 1, 1, none⟩ = some (.int .u8 t))
    (first | (simp [*]; done) | go_keep)
    (first | (go_at_call 16; refine (HD.out _ ((Upd.refl _ _).drew) ((Below.refl _ _).drew)).mono ?_; rintro e w4 ⟨rfl, hB4, hb14, hb24, hb34⟩; have u0 := blk_cell hb14 0; have u1 := blk_cell hb14 1; have v1 := blk_cell hb24 1; simp at u0 u1 v1; have HB1 := Lib.hid hb14; have HB3 := Lib.hid hb34; clear hb14 hb24 hb34))
  have z0 := blk_cell HB3.out 0
  have z1 := blk_cell HB3.out 1
  have g0 := blk_frozen HB3.out 0
  have g1 := blk_frozen HB3.out 1
  simp at z0 z1
  go_wp2_with fail
  have s := blk_set (blk_set HB3.out 0 (.slice al nl cl)) 1 (.int .i64 room)
  simp at s
  have e0 := blk_cell s 0
  have e1 := blk_cell s 1
  simp at e0 e1
  exact bodyPost_ret (v := .tuple #[.agg #[.slice al nl cl, .int .i64 room], .int .i64 6]) (by simp [results, Try.results30, go_sem, e0, e1]) rfl ⟨rfl, (hB4.setCell (p := ⟨w.heap.size + 1 + 1, 0, none⟩) (by show w.heap.size ≤ w.heap.size + 1 + 1; omega) _).setCell (p := ⟨w.heap.size + 1 + 1, 1, none⟩) (by show w.heap.size ≤ w.heap.size + 1 + 1; omega) _⟩

end Go.Proofs.Ytehgbpepaakanaa
