/-
  note.Encode.
-/
import Derived.Test.YtehgbpepaakanaaDoorEb
namespace Go.Proofs.YtehgbpepaakanaaDoor
open Go.RowKit Go.Shelf
set_option linter.unusedVariables false
set_option linter.unusedSimpArgs false
set_option maxRecDepth 20000

attribute [local go_sem] Oper.semAt_some

theorem rv_of_own {w : World} {B : Nat} {a : Option Addr} {n c : Nat} {vs : List CV} (h : w.ownsRow B 83 2 (.slice a n c) n (cellsOf encCV vs)) : RV w a vs := by
  rcases h.2 with ⟨h0, h1⟩ | ⟨g, cap, cur, hv, hg, hcur, hnc, hcm, hsz, htake⟩
  · subst h1
    have hl := h.1
    rw [cellsOf_length encCV 2 encCV_len] at hl
    exact .inl (List.length_eq_zero_iff.1 (by omega))
  · simp only [Value.slice.injEq] at hv
    obtain ⟨rfl, -, rfl⟩ := hv
    have hl := h.1
    rw [cellsOf_length encCV 2 encCV_len] at hl
    have hk : ∀ j, j < vs.length * 2 → w.cell? ⟨g, j, none⟩ = (cellsOf encCV vs)[j]? := by
      intro j hj
      rw [blk_cell hcur, ← htake, List.getElem?_take, if_pos (by omega), Array.getElem?_toList]
    refine .inr ⟨g, 0, rfl, lt_of_heap hcur, fun j x hx => ?_⟩
    have hj : j < vs.length := (List.getElem?_eq_some_iff.1 hx).1
    have e0 := cellsOf_at encCV 2 encCV_len vs j 0 x hx (by decide)
    have e1 := cellsOf_at encCV 2 encCV_len vs j 1 x hx (by decide)
    rw [Nat.zero_add]
    exact ⟨(hk _ (by omega)).trans e0, (hk _ (by omega)).trans e1⟩

theorem enc_wrong (n : Nt) (h : rightB n = false) (w : World) : Calls Tryd.prog 6 #[NV n] w fun e w' => e = .returned (.tuple #[.slice none 0 0, .int .i64 2]) ∧ Below w.heap.size w w' := by
  obtain ⟨w2, hw2⟩ : ∃ w2, w.alloc (.cells (NC n) 25) = w2 := ⟨_, rfl⟩
  have hB2 : Below w.heap.size w w2 := by rw [← hw2]; exact (Below.refl _ w).alloc (Nat.le_refl _) _
  have hb1 : w2.heap[w.heap.size]? = some (.cells (NC n) 25 (0, 0)) := by rw [← hw2]; exact World.alloc_heap_new w _
  have HR := Lib.hid (right_is n w2)
  rw [h] at HR
  have c0 := blk_cell hb1 0
  have c1 := blk_cell hb1 1
  have c2 := blk_cell hb1 2
  have c3 := blk_cell hb1 3
  have c4 := blk_cell hb1 4
  have c5 := blk_cell hb1 5
  have c6 := blk_cell hb1 6
  have c7 := blk_cell hb1 7
  have c8 := blk_cell hb1 8
  have c9 := blk_cell hb1 9
  have HW2 := Lib.hid hw2
  clear hb1 hw2
  obtain ⟨k, mob, tx, ep, v, ki, fr, tt, me, s⟩ := n
  simp only [NV, NC] at HR HW2 c0 c1 c2 c3 c4 c5 c6 c7 c8 c9 ⊢
  simp at c0 c1 c2 c3 c4 c5 c6 c7 c8 c9
  go_enter Tryd.func6, Tryd.ntmps6
  go_upto_region 1 with fail
  rw [HW2.out]
  go_wp2_with fail
  refine HR.out.mono ?_
  rintro e w3 ⟨rfl, hB3⟩
  have HB3 := Lib.hid hB3
  clear hB3
  go_wp2_with fail
  go_ret2
  exact ⟨rfl, hB2.trans (HB3.out.mono hB2.size)⟩
end Go.Proofs.YtehgbpepaakanaaDoor
