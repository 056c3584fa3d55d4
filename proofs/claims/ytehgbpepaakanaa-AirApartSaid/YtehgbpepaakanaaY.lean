/-
  The law of air: does, few.
-/
import Derived.Test.YtehgbpepaakanaaX
namespace Go.Proofs.Ytehgbpepaakanaa
open Go.RowKit Go.Joins
set_option linter.unusedVariables false
set_option linter.unusedSimpArgs false

set_option maxHeartbeats 1000000 in
theorem few_is (k f t : Int) (a : Option Addr) (m d : Nat) (i pl z : Int) (w : World) :
    Calls Try.prog 14 #[.agg #[.int .u8 k, .int .u8 f, .int .u8 t, .slice a m d, .int .i64 i, .int .u16 pl, .int .u8 z]] w fun e w' => e = .returned (.bool (decide ((m : Int) ≤ 4100))) ∧ Below w.heap.size w w' := by
  go_enter Try.func14, Try.ntmps14
  go_wp2_with fail
  go_ret
  exact ⟨rfl, (Below.refl _ w).alloc (Nat.le_refl _) _⟩

/-- An act's value. -/
def actV (k f t : Int) (a : Option Addr) (m d : Nat) (i pl z : Int) : Value := .agg #[.int .u8 k, .int .u8 f, .int .u8 t, .slice a m d, .int .i64 i, .int .u16 pl, .int .u8 z]

theorem act_boxes (v : Value) (room k f t : Int) (a : Option Addr) (m d : Nat) (i pl z : Int) (w : World) : ∃ w3, ((w.alloc (.cells #[v, .int .i64 room] 38)).alloc (.cells #[.int .u8 k, .int .u8 f, .int .u8 t, .slice a m d, .int .i64 i, .int .u16 pl, .int .u8 z] 42)).alloc (.cells #[.slice none 0 0, .int .i64 0] 38) = w3 ∧
    w3.heap[w.heap.size]? = some (.cells #[v, .int .i64 room] 38 (0, 0)) ∧ w3.heap[w.heap.size + 1]? = some (.cells #[.int .u8 k, .int .u8 f, .int .u8 t, .slice a m d, .int .i64 i, .int .u16 pl, .int .u8 z] 42 (0, 0)) ∧ w3.heap[w.heap.size + 1 + 1]? = some (.cells #[.slice none 0 0, .int .i64 0] 38 (0, 0)) ∧ Below w.heap.size w w3 ∧ w3.heap.size = w.heap.size + 1 + 1 + 1 := by
  obtain ⟨w3, h1, h2, h3, h4, h5⟩ := three_box w #[v, .int .i64 room] #[.int .u8 k, .int .u8 f, .int .u8 t, .slice a m d, .int .i64 i, .int .u16 pl, .int .u8 z] #[.slice none 0 0, .int .i64 0] 38 42 38
  exact ⟨w3, h1, h2, h3, h4, h5, by rw [← h1]; simp⟩

/-- The blocks that were made between w and w'. -/
def Mid (w w' : World) : Nat → Prop := fun q => w.heap.size ≤ q ∧ q < w'.heap.size

set_option maxHeartbeats 1000000 in
theorem does_again (A : Nat) (al : Option Addr) (nl cl : Nat) (room : Int) (k f t : Int) (a : Option Addr) (m d : Nat) (i pl z : Int) (w : World) (hk : k.tmod 6 = 4) (R : World → Value → Int → Int → World → Prop)
    (H : ∀ w1, Below w.heap.size w w1 → w.heap.size + 1 + 1 < w1.heap.size → Calls Try.prog 28 #[.agg #[.slice al nl cl, .int .i64 room], .int .u8 t, .int .i64 i] w1 fun e w2 => ∃ a' n' c' kr, e = .returned (.tuple #[.agg #[.slice a' n' c', .int .i64 room], .int .i64 kr]) ∧ Below w1.heap.size w1 w2 ∧
      ∀ w3, Below w2.heap.size w2 w3 → Calls Try.prog 18 #[.pointer (some ⟨A, 0, none⟩), .int .u8 t, .int .i64 i] w3 fun e w4 => ∃ kp, e = .returned (.int .i64 kp) ∧ Kept (Mid w w3) w3 w4 ∧ R w1 (.slice a' n' c') kr kp w4) :
    Calls Try.prog 15 #[.pointer (some ⟨A, 0, none⟩), .agg #[.slice al nl cl, .int .i64 room], actV k f t a m d i pl z] w fun e w' => ∃ a' n' c' kr kp w1 w4, e = .returned (.tuple #[.agg #[.slice a' n' c', .int .i64 room], .bool (kp == kr)]) ∧ w.heap.size + 1 + 1 < w1.heap.size ∧ R w1 (.slice a' n' c') kr kp w4 ∧ Upd (fun q => q = w.heap.size + 1 + 1) w4 w' := by
  obtain ⟨w1, hw1, b1, b2, b3, hB, hs1⟩ := act_boxes (.slice al nl cl) room k f t a m d i pl z w
  have HH := Lib.hid (H w1 hB (by omega))
  have x0 := blk_cell b1 0
  have x1 := blk_cell b1 1
  have y0 := blk_cell b2 0
  have y2 := blk_cell b2 2
  have y4 := blk_cell b2 4
  simp at x0 x1 y0 y2 y4
  have HW := Lib.hid hw1
  have B2 := Lib.hid b2
  have B3 := Lib.hid b3
  have HS1 := Lib.hid hs1
  have k3 : (k.tmod 6 == 3) = false := by rw [hk]; rfl
  have k4 : (k.tmod 6 == 4) = true := by rw [hk]; rfl
  clear H b1 b2 b3 hw1 hs1 hk
  unfold actV
  go_enter Try.func15, Try.ntmps15
  go_upto_region 2 with fail
  rw [HW.out]
  go_wp2_with fail
  refine HH.out.mono ?_
  rintro e w2 ⟨a', n', c', kr, rfl, hB2, H2⟩
  obtain ⟨w3, hw3, b4, hB3⟩ := air_box (.slice a' n' c') room w2
  have c2 := (hB2.block _ (lt_of_heap B2.out)).trans B2.out
  have c3 := (hB2.block _ (lt_of_heap B3.out)).trans B3.out
  have d2 := (hB3.block _ (lt_of_heap c2)).trans c2
  have d3 := (hB3.block _ (lt_of_heap c3)).trans c3
  have u2 := blk_cell d2 2
  have u4 := blk_cell d2 4
  simp at u2 u4
  have hm2 : w.heap.size + 1 < w3.heap.size := lt_of_heap d2
  have hm3 : w.heap.size + 1 + 1 < w3.heap.size := lt_of_heap d3
  have hm4 := lt_of_heap b4
  have hw2 : w.heap.size ≤ w2.heap.size := Nat.le_trans hB.size hB2.size
  have HD : Hid (∀ w', Upd (fun _ => False) w3 w' → Below w3.heap.size w3 w' → Calls Try.prog 18 #[.pointer (some ⟨A, 0, none⟩), .int .u8 t, .int .i64 i] w' fun e w4 => ∃ kp, e = .returned (.int .i64 kp) ∧ R w1 (.slice a' n' c') kr kp w4 ∧
      w4.heap[w.heap.size + 1]? = some (.cells #[.int .u8 k, .int .u8 f, .int .u8 t, .slice a m d, .int .i64 i, .int .u16 pl, .int .u8 z] 42 (0, 0)) ∧ w4.heap[w.heap.size + 1 + 1]? = some (.cells #[.slice none 0 0, .int .i64 0] 38 (0, 0)) ∧ w4.heap[w2.heap.size]? = some (.cells #[.slice a' n' c', .int .i64 room] 38 (0, 0))) := by
    intro w' _ hb
    refine (H2 w' (hB3.trans (hb.mono hB3.size))).mono ?_
    rintro e w4 ⟨kp, rfl, hK, hR⟩
    have hs := hb.size
    exact ⟨kp, rfl, hR, hK.heap ((hb.block _ hm2).trans d2) ⟨by omega, by omega⟩, hK.heap ((hb.block _ hm3).trans d3) ⟨by omega, by omega⟩, hK.heap ((hb.block _ hm4).trans b4) ⟨by omega, by omega⟩⟩
  have v0 := blk_cell b4 0
  have v1 := blk_cell b4 1
  simp at v0 v1
  have HW3 := Lib.hid hw3
  have hne : ¬ w2.heap.size = w.heap.size + 1 + 1 := by have := lt_of_heap c3; omega
  have hne' : ¬ w.heap.size + 1 + 1 = w2.heap.size := by have := lt_of_heap c3; omega
  clear x0 x1 y0 y2 y4 H2 c2 c3 d2 d3 hw3 b4
  go_wp2_with fail
  rw [HW3.out]
  go_region_held3 (fun w' => w'.cell? ⟨w2.heap.size, 0, none⟩ = some (.slice a' n' c') ∧ w'.cell? ⟨w2.heap.size, 1, none⟩ = some (.int .i64 room) ∧ w'.cell? ⟨w.heap.size + 1, 2, none⟩ = some (.int .u8 t) ∧ w'.cell? ⟨w.heap.size + 1, 4, none⟩ = some (.int .i64 i))
    (first | (simp [*]; done) | go_keep)
    (first | (go_at_call 18; refine (HD.out _ ((Upd.refl _ _).drew) ((Below.refl _ _).drew)).mono ?_; rintro e w4 ⟨kp, rfl, hR, hb2, hb3, hb4⟩; have u2 := blk_cell hb2 2; have u4 := blk_cell hb2 4; have v0 := blk_cell hb4 0; have v1 := blk_cell hb4 1; have s0 := blk_cell hb3 0; have s1 := blk_cell hb3 1; have g0 := blk_frozen hb3 0; have g1 := blk_frozen hb3 1; simp at u2 u4 v0 v1 s0 s1; have HB2 := Lib.hid hb2; have HB3 := Lib.hid hb3; have HB4 := Lib.hid hb4; have HR := Lib.hid hR; clear hb2 hb3 hb4 hR))
  go_wp2_with fail
  have t3 := blk_set (blk_set HB3.out 0 (.slice a' n' c')) 1 (.int .i64 room)
  simp at t3
  have e0 := blk_cell t3 0
  have e1 := blk_cell t3 1
  simp at e0 e1
  exact bodyPost_ret (v := .tuple #[.agg #[.slice a' n' c', .int .i64 room], .bool (kp == kr)]) (by simp [results, Try.results15, go_sem, e0, e1]) rfl ⟨a', n', c', kr, kp, w1, w4, rfl, by rw [HS1.out]; omega, HR.out, ((Upd.refl (fun q => q = w.heap.size + 1 + 1) w4).setCell ⟨w.heap.size + 1 + 1, 0, none⟩ _ (fun _ => rfl)).setCell ⟨w.heap.size + 1 + 1, 1, none⟩ _ (fun _ => rfl)⟩

set_option maxHeartbeats 1000000 in
theorem does_turn (A : Nat) (al : Option Addr) (nl cl : Nat) (room : Int) (k f t : Int) (a : Option Addr) (m d : Nat) (i pl z : Int) (w : World) (hk : k.tmod 6 = 5) (R : World → Value → Int → Int → World → Prop)
    (H : ∀ w1, Below w.heap.size w w1 → w.heap.size + 1 + 1 < w1.heap.size → Calls Try.prog 29 #[.agg #[.slice al nl cl, .int .i64 room], .int .u8 t, .int .i64 i, .int .u16 pl, .int .u8 z] w1 fun e w2 => ∃ a' n' c' kr, e = .returned (.tuple #[.agg #[.slice a' n' c', .int .i64 room], .int .i64 kr]) ∧ Below w1.heap.size w1 w2 ∧
      ∀ w3, Below w2.heap.size w2 w3 → Calls Try.prog 19 #[.pointer (some ⟨A, 0, none⟩), .int .u8 t, .int .i64 i, .int .u16 pl, .int .u8 z] w3 fun e w4 => ∃ kp, e = .returned (.int .i64 kp) ∧ Kept (Mid w w3) w3 w4 ∧ R w1 (.slice a' n' c') kr kp w4) :
    Calls Try.prog 15 #[.pointer (some ⟨A, 0, none⟩), .agg #[.slice al nl cl, .int .i64 room], actV k f t a m d i pl z] w fun e w' => ∃ a' n' c' kr kp w1 w4, e = .returned (.tuple #[.agg #[.slice a' n' c', .int .i64 room], .bool (kp == kr)]) ∧ w.heap.size + 1 + 1 < w1.heap.size ∧ R w1 (.slice a' n' c') kr kp w4 ∧ Upd (fun q => q = w.heap.size + 1 + 1) w4 w' := by
  obtain ⟨w1, hw1, b1, b2, b3, hB, hs1⟩ := act_boxes (.slice al nl cl) room k f t a m d i pl z w
  have HH := Lib.hid (H w1 hB (by omega))
  have x0 := blk_cell b1 0
  have x1 := blk_cell b1 1
  have y0 := blk_cell b2 0
  have y2 := blk_cell b2 2
  have y4 := blk_cell b2 4
  have y5 := blk_cell b2 5
  have y6 := blk_cell b2 6
  simp at x0 x1 y0 y2 y4 y5 y6
  have HW := Lib.hid hw1
  have B2 := Lib.hid b2
  have B3 := Lib.hid b3
  have HS1 := Lib.hid hs1
  have k3 : (k.tmod 6 == 3) = false := by rw [hk]; rfl
  have k4 : (k.tmod 6 == 4) = false := by rw [hk]; rfl
  have k5 : (k.tmod 6 == 5) = true := by rw [hk]; rfl
  clear H b1 b2 b3 hw1 hs1 hk
  unfold actV
  go_enter Try.func15, Try.ntmps15
  go_upto_region 2 with fail
  rw [HW.out]
  go_wp2_with fail
  refine HH.out.mono ?_
  rintro e w2 ⟨a', n', c', kr, rfl, hB2, H2⟩
  obtain ⟨w3, hw3, b4, hB3⟩ := air_box (.slice a' n' c') room w2
  have c2 := (hB2.block _ (lt_of_heap B2.out)).trans B2.out
  have c3 := (hB2.block _ (lt_of_heap B3.out)).trans B3.out
  have d2 := (hB3.block _ (lt_of_heap c2)).trans c2
  have d3 := (hB3.block _ (lt_of_heap c3)).trans c3
  have u2 := blk_cell d2 2
  have u4 := blk_cell d2 4
  have u5 := blk_cell d2 5
  have u6 := blk_cell d2 6
  simp at u2 u4 u5 u6
  have hm2 : w.heap.size + 1 < w3.heap.size := lt_of_heap d2
  have hm3 : w.heap.size + 1 + 1 < w3.heap.size := lt_of_heap d3
  have hm4 := lt_of_heap b4
  have hw2 : w.heap.size ≤ w2.heap.size := Nat.le_trans hB.size hB2.size
  have HD : Hid (∀ w', Upd (fun _ => False) w3 w' → Below w3.heap.size w3 w' → Calls Try.prog 19 #[.pointer (some ⟨A, 0, none⟩), .int .u8 t, .int .i64 i, .int .u16 pl, .int .u8 z] w' fun e w4 => ∃ kp, e = .returned (.int .i64 kp) ∧ R w1 (.slice a' n' c') kr kp w4 ∧
      w4.heap[w.heap.size + 1]? = some (.cells #[.int .u8 k, .int .u8 f, .int .u8 t, .slice a m d, .int .i64 i, .int .u16 pl, .int .u8 z] 42 (0, 0)) ∧ w4.heap[w.heap.size + 1 + 1]? = some (.cells #[.slice none 0 0, .int .i64 0] 38 (0, 0)) ∧ w4.heap[w2.heap.size]? = some (.cells #[.slice a' n' c', .int .i64 room] 38 (0, 0))) := by
    intro w' _ hb
    refine (H2 w' (hB3.trans (hb.mono hB3.size))).mono ?_
    rintro e w4 ⟨kp, rfl, hK, hR⟩
    have hs := hb.size
    exact ⟨kp, rfl, hR, hK.heap ((hb.block _ hm2).trans d2) ⟨by omega, by omega⟩, hK.heap ((hb.block _ hm3).trans d3) ⟨by omega, by omega⟩, hK.heap ((hb.block _ hm4).trans b4) ⟨by omega, by omega⟩⟩
  have v0 := blk_cell b4 0
  have v1 := blk_cell b4 1
  simp at v0 v1
  have HW3 := Lib.hid hw3
  have hne : ¬ w2.heap.size = w.heap.size + 1 + 1 := by have := lt_of_heap c3; omega
  have hne' : ¬ w.heap.size + 1 + 1 = w2.heap.size := by have := lt_of_heap c3; omega
  clear x0 x1 y0 y2 y4 y5 y6 H2 c2 c3 d2 d3 hw3 b4
  go_wp2_with fail
  rw [HW3.out]
  go_region_held3 (fun w' => w'.cell? ⟨w2.heap.size, 0, none⟩ = some (.slice a' n' c') ∧ w'.cell? ⟨w2.heap.size, 1, none⟩ = some (.int .i64 room) ∧ w'.cell? ⟨w.heap.size + 1, 2, none⟩ = some (.int .u8 t) ∧ w'.cell? ⟨w.heap.size + 1, 4, none⟩ = some (.int .i64 i) ∧ w'.cell? ⟨w.heap.size + 1, 5, none⟩ = some (.int .u16 pl) ∧ w'.cell? ⟨w.heap.size + 1, 6, none⟩ = some (.int .u8 z))
    (first | (simp [*]; done) | go_keep)
    (first | (go_at_call 19; refine (HD.out _ ((Upd.refl _ _).drew) ((Below.refl _ _).drew)).mono ?_; rintro e w4 ⟨kp, rfl, hR, hb2, hb3, hb4⟩; have u2 := blk_cell hb2 2; have u4 := blk_cell hb2 4; have u5 := blk_cell hb2 5; have u6 := blk_cell hb2 6; have v0 := blk_cell hb4 0; have v1 := blk_cell hb4 1; have s0 := blk_cell hb3 0; have s1 := blk_cell hb3 1; have g0 := blk_frozen hb3 0; have g1 := blk_frozen hb3 1; simp at u2 u4 u5 u6 v0 v1 s0 s1; have HB2 := Lib.hid hb2; have HB3 := Lib.hid hb3; have HB4 := Lib.hid hb4; have HR := Lib.hid hR; clear hb2 hb3 hb4 hR))
  go_wp2_with fail
  have t3 := blk_set (blk_set HB3.out 0 (.slice a' n' c')) 1 (.int .i64 room)
  simp at t3
  have e0 := blk_cell t3 0
  have e1 := blk_cell t3 1
  simp at e0 e1
  exact bodyPost_ret (v := .tuple #[.agg #[.slice a' n' c', .int .i64 room], .bool (kp == kr)]) (by simp [results, Try.results15, go_sem, e0, e1]) rfl ⟨a', n', c', kr, kp, w1, w4, rfl, by rw [HS1.out]; omega, HR.out, ((Upd.refl (fun q => q = w.heap.size + 1 + 1) w4).setCell ⟨w.heap.size + 1 + 1, 0, none⟩ _ (fun _ => rfl)).setCell ⟨w.heap.size + 1 + 1, 1, none⟩ _ (fun _ => rfl)⟩

set_option maxHeartbeats 1000000 in
theorem does_send (A : Nat) (al : Option Addr) (nl cl : Nat) (room : Int) (k f t : Int) (a : Option Addr) (m d : Nat) (i pl z : Int) (w : World) (hk3 : k.tmod 6 ≠ 3) (hk4 : k.tmod 6 ≠ 4) (hk5 : k.tmod 6 ≠ 5) (R : World → Value → Int → Int → World → Prop)
    (H : ∀ w1, Below w.heap.size w w1 → w.heap.size + 1 + 1 < w1.heap.size → Calls Try.prog 30 #[.agg #[.slice al nl cl, .int .i64 room], .agg #[.int .u8 f, .int .u8 t, .slice a m d]] w1 fun e w2 => ∃ a' n' c' kr, e = .returned (.tuple #[.agg #[.slice a' n' c', .int .i64 room], .int .i64 kr]) ∧ Below w1.heap.size w1 w2 ∧
      ∀ w3, Below w2.heap.size w2 w3 → Calls Try.prog 11 #[.pointer (some ⟨A, 0, none⟩), .agg #[.int .u8 f, .int .u8 t, .slice a m d]] w3 fun e w4 => ∃ kp, e = .returned (.int .i64 kp) ∧ Kept (Mid w w3) w3 w4 ∧ R w1 (.slice a' n' c') kr kp w4) :
    Calls Try.prog 15 #[.pointer (some ⟨A, 0, none⟩), .agg #[.slice al nl cl, .int .i64 room], actV k f t a m d i pl z] w fun e w' => ∃ a' n' c' kr kp w1 w4, e = .returned (.tuple #[.agg #[.slice a' n' c', .int .i64 room], .bool (kp == kr)]) ∧ w.heap.size + 1 + 1 < w1.heap.size ∧ R w1 (.slice a' n' c') kr kp w4 ∧ Upd (fun q => q = w.heap.size + 1 + 1) w4 w' := by
  obtain ⟨w0, hw0, b1, b2, b3, hB0, hs0⟩ := act_boxes (.slice al nl cl) room k f t a m d i pl z w
  obtain ⟨w1, hw1, b5, hB1⟩ := let48_box f t a m d w0
  have hs1 : w1.heap.size = w.heap.size + 1 + 1 + 1 + 1 := by rw [← hw1, World.size_alloc, hs0]
  have hB := hB0.trans (hB1.mono hB0.size)
  have y1 := blk_cell b2 1
  have y2 := blk_cell b2 2
  have y3 := blk_cell b2 3
  have y0 := blk_cell b2 0
  replace b1 := (hB1.block _ (lt_of_heap b1)).trans b1
  replace b2 := (hB1.block _ (lt_of_heap b2)).trans b2
  replace b3 := (hB1.block _ (lt_of_heap b3)).trans b3
  have HH := Lib.hid (H w1 hB (by omega))
  have x0 := blk_cell b1 0
  have x1 := blk_cell b1 1
  have z0 := blk_cell b5 0
  have z1 := blk_cell b5 1
  have z2 := blk_cell b5 2
  simp at x0 x1 y0 y1 y2 y3 z0 z1 z2
  have HW0 := Lib.hid hw0
  have HW1 := Lib.hid hw1
  have B3 := Lib.hid b3
  have B5 := Lib.hid b5
  have HS1 := Lib.hid hs1
  have HS0 := Lib.hid hs0
  have k3 : (k.tmod 6 == 3) = false := by simpa using hk3
  have k4 : (k.tmod 6 == 4) = false := by simpa using hk4
  have k5 : (k.tmod 6 == 5) = false := by simpa using hk5
  clear H b1 b2 b3 b5 hw1 hw0 hs1 hs0 hk3 hk4 hk5 hB0 hB1
  unfold actV
  go_enter Try.func15, Try.ntmps15
  go_upto_region 2 with fail
  rw [HW0.out]
  go_upto_region 13 with fail
  rw [HW1.out]
  go_wp2_with fail
  refine HH.out.mono ?_
  rintro e w2 ⟨a', n', c', kr, rfl, hB2, H2⟩
  obtain ⟨w3, hw3, b4, hB3⟩ := air_box (.slice a' n' c') room w2
  have c3 := (hB2.block _ (lt_of_heap B3.out)).trans B3.out
  have c5 := (hB2.block _ (lt_of_heap B5.out)).trans B5.out
  have d3 := (hB3.block _ (lt_of_heap c3)).trans c3
  have d5 := (hB3.block _ (lt_of_heap c5)).trans c5
  have u0 := blk_cell d5 0
  have u1 := blk_cell d5 1
  have u2 := blk_cell d5 2
  simp at u0 u1 u2
  have hm3 : w.heap.size + 1 + 1 < w3.heap.size := lt_of_heap d3
  have hm5 := lt_of_heap d5
  have hm4 := lt_of_heap b4
  have hw2 : w.heap.size ≤ w2.heap.size := Nat.le_trans hB.size hB2.size
  have hsz := HS0.out
  have HD : Hid (∀ w', Upd (fun _ => False) w3 w' → Below w3.heap.size w3 w' → Calls Try.prog 11 #[.pointer (some ⟨A, 0, none⟩), .agg #[.int .u8 f, .int .u8 t, .slice a m d]] w' fun e w4 => ∃ kp, e = .returned (.int .i64 kp) ∧ R w1 (.slice a' n' c') kr kp w4 ∧
      w4.heap[w0.heap.size]? = some (.cells #[.int .u8 f, .int .u8 t, .slice a m d] 48 (0, 0)) ∧ w4.heap[w.heap.size + 1 + 1]? = some (.cells #[.slice none 0 0, .int .i64 0] 38 (0, 0)) ∧ w4.heap[w2.heap.size]? = some (.cells #[.slice a' n' c', .int .i64 room] 38 (0, 0))) := by
    intro w' _ hb
    refine (H2 w' (hB3.trans (hb.mono hB3.size))).mono ?_
    rintro e w4 ⟨kp, rfl, hK, hR⟩
    have hs := hb.size
    exact ⟨kp, rfl, hR, hK.heap ((hb.block _ hm5).trans d5) ⟨by omega, by omega⟩, hK.heap ((hb.block _ hm3).trans d3) ⟨by omega, by omega⟩, hK.heap ((hb.block _ hm4).trans b4) ⟨by omega, by omega⟩⟩
  have v0 := blk_cell b4 0
  have v1 := blk_cell b4 1
  simp at v0 v1
  have HW3 := Lib.hid hw3
  have hne : ¬ w2.heap.size = w.heap.size + 1 + 1 := by have := lt_of_heap c3; omega
  have hne' : ¬ w.heap.size + 1 + 1 = w2.heap.size := by have := lt_of_heap c3; omega
  have hnf : ¬ w0.heap.size = w.heap.size + 1 + 1 := by omega
  have hnf' : ¬ w.heap.size + 1 + 1 = w0.heap.size := by omega
  clear x0 x1 y0 y1 y2 y3 z0 z1 z2 H2 c3 c5 d3 d5 hw3 b4 hsz
  go_wp2_with fail
  rw [HW3.out]
  go_region_held3 (fun w' => w'.cell? ⟨w2.heap.size, 0, none⟩ = some (.slice a' n' c') ∧ w'.cell? ⟨w2.heap.size, 1, none⟩ = some (.int .i64 room) ∧ w'.cell? ⟨w0.heap.size, 0, none⟩ = some (.int .u8 f) ∧ w'.cell? ⟨w0.heap.size, 1, none⟩ = some (.int .u8 t) ∧ w'.cell? ⟨w0.heap.size, 2, none⟩ = some (.slice a m d))
    (first | (simp [*]; done) | go_keep)
    (first | (go_at_call 11; refine (HD.out _ ((Upd.refl _ _).drew) ((Below.refl _ _).drew)).mono ?_; rintro e w4 ⟨kp, rfl, hR, hb5, hb3, hb4⟩; have u0 := blk_cell hb5 0; have u1 := blk_cell hb5 1; have u2 := blk_cell hb5 2; have v0 := blk_cell hb4 0; have v1 := blk_cell hb4 1; have s0 := blk_cell hb3 0; have s1 := blk_cell hb3 1; have g0 := blk_frozen hb3 0; have g1 := blk_frozen hb3 1; simp at u0 u1 u2 v0 v1 s0 s1; have HB5 := Lib.hid hb5; have HB3 := Lib.hid hb3; have HB4 := Lib.hid hb4; have HR := Lib.hid hR; clear hb5 hb3 hb4 hR))
  go_wp2_with fail
  have t3 := blk_set (blk_set HB3.out 0 (.slice a' n' c')) 1 (.int .i64 room)
  simp at t3
  have e0 := blk_cell t3 0
  have e1 := blk_cell t3 1
  simp at e0 e1
  exact bodyPost_ret (v := .tuple #[.agg #[.slice a' n' c', .int .i64 room], .bool (kp == kr)]) (by simp [results, Try.results15, go_sem, e0, e1]) rfl ⟨a', n', c', kr, kp, w1, w4, rfl, by rw [HS1.out]; omega, HR.out, ((Upd.refl (fun q => q = w.heap.size + 1 + 1) w4).setCell ⟨w.heap.size + 1 + 1, 0, none⟩ _ (fun _ => rfl)).setCell ⟨w.heap.size + 1 + 1, 1, none⟩ _ (fun _ => rfl)⟩

end Go.Proofs.Ytehgbpepaakanaa
