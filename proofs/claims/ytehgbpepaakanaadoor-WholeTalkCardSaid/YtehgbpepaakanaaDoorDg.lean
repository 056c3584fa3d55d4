/-
  works.
-/
import Derived.Test.YtehgbpepaakanaaDoorDf
namespace Go.Proofs.YtehgbpepaakanaaDoor
open Go.RowKit Go.Shelf
set_option linter.unusedVariables false
set_option linter.unusedSimpArgs false
set_option maxRecDepth 20000

attribute [local go_sem] Oper.semAt_some

theorem records19 (b off d : Nat) (s r : Int) (w : World) (hb : b < w.heap.size) (hd : 19 ≤ d) (hd2 : (d : Int) ≤ 9223372036854775807)
    (hc : ∀ j x, (frameOf recB)[j]? = some x → w.cell? ⟨b, off + j, none⟩ = some (.int .u8 x)) :
    Calls Tryd.prog 22 #[.agg #[.slice (some ⟨b, off, none⟩) 19 d, .int .i64 s, .int .i64 r]] w fun x w' => ∃ ob oo oc xa xc, x = .returned (.tuple #[.slice (some ⟨ob, oo, none⟩) 1 oc, .int .i64 19]) ∧ w'.cell? ⟨ob, oo, none⟩ = some (.slice xa 12 xc) ∧ 1 ≤ oc ∧
      BR w' xa 12 xc recB ∧ Below w.heap.size w w' := by
  have h := records22 b off d recB s r w hb (by rw [recB_len]; decide) (by rw [recB_len]; decide) (by rw [recB_len]; exact hd) hd2 hc recB_byts
  rw [recB_len] at h
  refine Calls.mono (show Calls Tryd.prog 22 #[.agg #[.slice (some ⟨b, off, none⟩) 19 d, .int .i64 s, .int .i64 r]] w _ from h) ?_
  rintro e w' ⟨ob, oo, oc, xa, xc, rfl, h1, h2, h3, h4⟩
  refine ⟨ob, oo, oc, xa, xc, rfl, h1, h2, ?_, h4⟩
  refine BS.read ?_
  have := ownsRow_base (base' := 0) h3 (fun _ _ => Nat.zero_le _)
  unfold BS; rw [recB_len]; exact this

set_option maxHeartbeats 2000000 in
theorem works_is (w : World) : Calls Tryd.prog 5 #[] w fun e w' => e = .returned (.bool true) ∧ Below w.heap.size w w' := by
  obtain ⟨w2, hw2⟩ : ∃ w2, w.alloc (.cells #[.int .i64 3, .int .i64 300, .int .u8 3, .int .i64 (-5)] 64) = w2 := ⟨_, rfl⟩
  have hB2 : Below w.heap.size w w2 := by rw [← hw2]; exact (Below.refl _ w).alloc (Nat.le_refl _) _
  have hb1 : w2.heap[w.heap.size]? = some (.cells #[.int .i64 3, .int .i64 300, .int .u8 3, .int .i64 (-5)] 64 (0, 0)) := by rw [← hw2]; exact World.alloc_heap_new w _
  have H1 := Lib.hid hb1
  have HW2 := Lib.hid hw2
  have hl1 := lt_of_heap hb1
  have x0 := blk_cell hb1 0
  have x1 := blk_cell hb1 1
  have x2 := blk_cell hb1 2
  have x3 := blk_cell hb1 3
  simp at x0 x1 x2 x3
  clear hb1 hw2
  go_enter Tryd.func5, Tryd.ntmps5
  go_upto_region 2 with fail
  rw [HW2.out]
  go_wp2_with fail
  refine (bytes20 _).mono ?_
  rintro e w3 ⟨a3, c3, rfl, hown3, hB3⟩
  obtain ⟨b3, o3, rfl, hb3, hc3, hc3b, hr3⟩ := own_read hown3 recB_len (by decide)
  have HA := Lib.hid (append21 b3 o3 12 c3 recB w3 hb3 recB_len (by decide) hc3 hc3b hr3 recB_byts)
  have h13 := (hB3.block _ hl1).trans H1.out
  have hz3 := hB3.size
  have HB3 := Lib.hid (hB2.trans (hB3.mono hB2.size))
  have H13 := Lib.hid h13
  clear x0 x1 x2 x3 hown3 hr3 hB3 h13
  go_wp2_with fail
  refine HA.out.mono ?_
  rintro e w4 ⟨a4, c4, rfl, hown4, hB4⟩
  have h14 := (hB4.block _ (Nat.lt_of_lt_of_le hl1 hz3)).trans H13.out
  have hl19 : (frameOf recB).length = 19 := by rw [frameOf_len, recB_len]
  obtain ⟨w5, hw5⟩ : ∃ w5, w4.alloc (.cells #[.slice a4 19 c4, .int .i64 0, .int .i64 1000] 67) = w5 := ⟨_, rfl⟩
  have HW5 := Lib.hid hw5
  go_upto_region 4 with fail
  have hd5 : DB w5 w4.heap.size (.slice a4 19 c4) 0 1000 := by rw [← HW5.out]; exact World.alloc_heap_new w4 _
  have hz4 := hB4.size
  have hB45 : Below w4.heap.size w4 w5 := by rw [← HW5.out]; exact (Below.refl _ w4).alloc (Nat.le_refl _) _
  have h15 := (hB45.block _ (Nat.lt_of_lt_of_le hl1 (Nat.le_trans hz3 hz4))).trans h14
  have hBS5 : BS w5 (.slice a4 19 c4) (frameOf recB) := by
    have := ownsRow_upd hown4 (Upd.of_below hB45 (fun _ => False)) (fun _ _ h => h)
    unfold BS; rw [hl19]
    exact ownsRow_base this (fun _ _ => Nat.zero_le _)
  have HS5 := Lib.hid (sync24 a4 19 c4 (frameOf recB) 0 1000 w5 hBS5.read (by decide))
  have HB5 := Lib.hid ((HB3.out.trans (hB4.mono (by have := HB3.out.size; omega))).trans (hB45.mono (by have := HB3.out.size; omega)))
  have H15 := Lib.hid h15
  obtain ⟨x0, x1, x2, -⟩ := hd5.cells
  have hz5 := hB45.size
  clear hw5 hown4 hB4 h14 h15 hBS5 hd5 hB45
  go_wp2_with fail
  refine HS5.out.mono ?_
  rintro e w6 ⟨a6, c6, rfl, hS6, hk6, hB6⟩
  have HC6 := Lib.hid (crash23 a6 19 c6 (frameOf recB) 1000 w6 hS6.read (by decide))
  have HB6 := Lib.hid hB6
  clear hS6 hk6 hB6 x0 x1 x2
  go_wp2_with fail
  refine HC6.out.mono ?_
  rintro e w7 ⟨a7, c7, rfl, hS7, hk7, hB7⟩
  have hown7 : w7.ownsRow 0 5 1 (.slice a7 19 c7) 19 (cellsOf encB (frameOf recB)) := by
    have := hS7; unfold BS at this; rwa [hl19] at this
  obtain ⟨b7, o7, rfl, hb7, hc7, hc7b, hr7⟩ := own_read hown7 hl19 (by decide)
  have HR7 := Lib.hid (records19 b7 o7 c7 19 1000 w7 hb7 hc7 hc7b hr7)
  have hB67 := HB6.out.trans (hB7.mono HB6.out.size)
  have HB7 := Lib.hid (HB5.out.trans (hB67.mono (by have := HB5.out.size; omega)))
  have h17 := (hB67.block _ (by omega)).trans H15.out
  have hz7 := hB67.size
  have H17 := Lib.hid h17
  clear hS7 hk7 hB7 hown7 hr7 hB67 h17
  go_wp2_with fail
  refine HR7.out.mono ?_
  rintro e w8 ⟨ob, oo, oc, xa, xc, rfl, hcell, hoc, hBR, hB8⟩
  have HB8 := Lib.hid (HB7.out.trans (hB8.mono (by have := HB7.out.size; omega)))
  have h18 := (hB8.block _ (by omega)).trans H17.out
  have hz8 := hB8.size
  have H18 := Lib.hid h18
  have HR8 := Lib.hid (record25 xa xc w8 hBR)
  have hoc' : (0 : Int) < (oc : Int) := by omega
  clear hB8 h18 hBR
  go_wp2_with fail
  refine HR8.out.mono ?_
  rintro e w9 ⟨rfl, hB9⟩
  obtain ⟨wa, hwa⟩ : ∃ wa, w9.alloc (.cells #[.int .i64 3, .int .i64 300, .int .u8 3, .int .i64 (-5)] 64) = wa := ⟨_, rfl⟩
  have hBa : Below w9.heap.size w9 wa := by rw [← hwa]; exact (Below.refl _ w9).alloc (Nat.le_refl _) _
  have hza : wa.heap.size = w9.heap.size + 1 := by rw [← hwa]; simp
  have hba : wa.heap[w9.heap.size]? = some (.cells #[.int .i64 3, .int .i64 300, .int .u8 3, .int .i64 (-5)] 64 (0, 0)) := by rw [← hwa]; exact World.alloc_heap_new w9 _
  have h19 := (hB9.block _ (by omega)).trans H18.out
  have hz9 := hB9.size
  have h1a := (hBa.block _ (by omega)).trans h19
  have HBa := Lib.hid ((HB8.out.trans (hB9.mono (by have := HB8.out.size; omega))).trans (hBa.mono (by have := HB8.out.size; omega)))
  have HWa := Lib.hid hwa
  have Hba := Lib.hid hba
  have H1a := Lib.hid h1a
  clear hB9 hBa hba h19 h1a
  go_upto_region 8 with fail
  go_wp2_with fail
  refine (new_site _).mono ?_
  rintro e wb ⟨⟨p, rfl⟩, hBb⟩
  have hbb := (hBb.block _ (by omega)).trans Hba.out
  have h1b := (hBb.block _ (by omega)).trans H1a.out
  have y0 := blk_cell hbb 0
  have y1 := blk_cell hbb 1
  have y2 := blk_cell hbb 2
  have y3 := blk_cell hbb 3
  have z0 := blk_cell h1b 0
  have z1 := blk_cell h1b 1
  have z2 := blk_cell h1b 2
  have z3 := blk_cell h1b 3
  simp at y0 y1 y2 y3 z0 z1 z2 z3
  have HBb := Lib.hid (HBa.out.trans (hBb.mono (by have := HBa.out.size; omega)))
  clear hBb hbb h1b
  go_wp2_with fail
  go_ret
  exact ⟨rfl, HBb.out⟩
end Go.Proofs.YtehgbpepaakanaaDoor
