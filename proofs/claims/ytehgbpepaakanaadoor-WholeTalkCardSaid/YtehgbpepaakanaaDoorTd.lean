/-
  party.Hear.
-/
import Derived.Test.YtehgbpepaakanaaDoorTc
namespace Go.Proofs.YtehgbpepaakanaaDoor
open Go.RowKit
set_option linter.unusedVariables false
set_option linter.unusedSimpArgs false
set_option maxRecDepth 20000

attribute [local go_sem] Oper.semAt_some

/-- The box of one who hears. -/
def IB (w : World) (B : Nat) (h : Int) : Prop := w.heap[B]? = some (.cells #[.int .i64 h] 50 (0, 0))
theorem IB.cells {w : World} {B : Nat} {q : Int} (h : IB w B q) : w.cell? ⟨B, 0, none⟩ = some (.int .i64 q) ∧ w.frozen? ⟨B, 0, none⟩ = false := by
  have h0 := blk_cell h 0
  simp at h0
  exact ⟨h0, blk_frozen h 0⟩
theorem IB.set0 {w : World} {B : Nat} {q : Int} (h : IB w B q) (u : Int) : IB (w.setCell ⟨B, 0, none⟩ (.int .i64 u)) B u := by simpa [IB] using blk_set h 0 (.int .i64 u)

set_option maxHeartbeats 1000000 in
theorem hear15 (h q c : Int) (s : ByteArray) (w : World) (hc10 : q < h → c = 10) (hc7 : h < q → c = 7) (h0 : 0 ≤ h) (h1 : h < 1048576) (q0 : 0 ≤ q) (q1 : q ≤ 1048576) (hs : s.size ≤ 500) :
    Calls Tryd.prog 15 #[.agg #[.int .i64 h], .agg #[.int .i64 q, .string s]] w fun e w' =>
      ((q = h ∧ e = .returned (.tuple #[.agg #[.int .i64 (h + 1)], .string s, .int .i64 0])) ∨ (q ≠ h ∧ e = .returned (.tuple #[.agg #[.int .i64 h], .string ⟨#[]⟩, .int .i64 c]))) ∧ Below w.heap.size w w' := by
  obtain ⟨w2, hw2⟩ : ∃ w2, ((w.alloc (.cells #[.int .i64 h] 50)).alloc (.cells #[.int .i64 q, .string s] 54)).alloc (.cells #[.int .i64 0] 50) = w2 := ⟨_, rfl⟩
  have hB2 : Below w.heap.size w w2 := by rw [← hw2]; exact (((Below.refl _ w).alloc (Nat.le_refl _) _).alloc (by simp) _).alloc (by simp; omega) _
  have hb1 : IB w2 w.heap.size h := by rw [← hw2]; exact blk_alloc (blk_alloc (heap_alloc_new w _) _) _
  have hb2 : KB w2 (w.heap.size + 1) q s := by
    rw [← hw2]
    have := heap_alloc_new (w.alloc (.cells #[.int .i64 h] 50)) (.cells #[.int .i64 q, .string s] 54)
    rw [World.size_alloc] at this
    exact blk_alloc this _
  have hb3 : IB w2 (w.heap.size + 2) 0 := by
    rw [← hw2]
    have := heap_alloc_new ((w.alloc (.cells #[.int .i64 h] 50)).alloc (.cells #[.int .i64 q, .string s] 54)) (.cells #[.int .i64 0] 50)
    rw [World.size_alloc, World.size_alloc] at this
    exact this
  have hz : w2.heap.size = w.heap.size + 3 := by rw [← hw2]; simp
  obtain ⟨x0, x1⟩ := hb1.cells
  obtain ⟨y0, y1, y2, y3⟩ := hb2.cells
  obtain ⟨z0, z1⟩ := hb3.cells
  have hh : h ≤ 1048576 := by omega
  have H1 := Lib.hid hb1
  have H2 := Lib.hid hb2
  have H3 := Lib.hid hb3
  have HW2 := Lib.hid hw2
  have hs' : ¬ (500 : Int) < (s.size : Int) := by omega
  clear hb1 hb2 hb3 hw2
  rcases (show q < h ∨ h < q ∨ q = h by omega) with hqh | hqh | hqh
  · have hne : q ≠ h := by omega
    go_enter Tryd.func15, Tryd.ntmps15
    go_upto_region 1 with fail
    rw [HW2.out]
    go_wp2_with (go_at_call 39; refine (num39 _ _ (by assumption) (by assumption)).mono ?_; rintro e w3 ⟨rfl, rfl⟩)
    have hU : Upd (fun k => k = w.heap.size + 2) w2 _ := (Upd.refl (fun k => k = w.heap.size + 2) w2).setCell ⟨w.heap.size + 2, 0, none⟩ (.int .i64 h) (fun _ => rfl)
    obtain ⟨e0, -⟩ := (H3.out.set0 h).cells
    refine bodyPost_ret (v := .tuple #[.agg #[.int .i64 h], .string ⟨#[]⟩, .int .i64 10]) (by simp [results, Tryd.results15, go_sem, e0]) rfl ⟨.inr ⟨hne, by rw [hc10 hqh]⟩, ?_⟩
    exact hB2.trans (hU.below hB2.size (fun i hi h => by omega))
  · have hne : q ≠ h := by omega
    go_enter Tryd.func15, Tryd.ntmps15
    go_upto_region 1 with fail
    rw [HW2.out]
    have hlt : ¬ q < h := by omega
    go_wp2_with (go_at_call 39; refine (num39 _ _ (by assumption) (by assumption)).mono ?_; rintro e w3 ⟨rfl, rfl⟩)
    have hU : Upd (fun k => k = w.heap.size + 2) w2 _ := (Upd.refl (fun k => k = w.heap.size + 2) w2).setCell ⟨w.heap.size + 2, 0, none⟩ (.int .i64 h) (fun _ => rfl)
    obtain ⟨e0, -⟩ := (H3.out.set0 h).cells
    refine bodyPost_ret (v := .tuple #[.agg #[.int .i64 h], .string ⟨#[]⟩, .int .i64 7]) (by simp [results, Tryd.results15, go_sem, e0]) rfl ⟨.inr ⟨hne, by rw [hc7 hqh]⟩, ?_⟩
    exact hB2.trans (hU.below hB2.size (fun i hi h => by omega))
  · subst hqh
    go_enter Tryd.func15, Tryd.ntmps15
    go_upto_region 1 with fail
    rw [HW2.out]
    have hlt : ¬ q < q := by omega
    have hwq : IntKind.i64.wrap (q + 1) = q + 1 := by rw [IntKind.wrap_i64]; omega
    obtain ⟨w3, hw3⟩ : ∃ w3, w2.setCell ⟨w.heap.size, 0, none⟩ (.int .i64 (q + 1)) = w3 := ⟨_, rfl⟩
    have hU3 : Upd (fun k => k = w.heap.size) w2 w3 := by rw [← hw3]; exact (Upd.refl (fun k => k = w.heap.size) w2).setCell ⟨w.heap.size, 0, none⟩ _ (fun _ => rfl)
    have hb13 : IB w3 w.heap.size (q + 1) := by rw [← hw3]; exact H1.out.set0 _
    have hb23 : KB w3 (w.heap.size + 1) q s := hU3.heap H2.out (by omega)
    have hb33 : IB w3 (w.heap.size + 2) 0 := hU3.heap H3.out (by omega)
    have hB3 := hB2.trans (hU3.below hB2.size (fun i hi h => by omega))
    have HW3 := Lib.hid hw3
    clear hw3
    go_upto_region 8 with (go_at_call 39; refine (num39 _ _ (by assumption) (by assumption)).mono ?_; rintro e w3 ⟨rfl, rfl⟩)
    rw [HW3.out]
    clear x0 x1 y0 y1 y2 y3 z0 z1
    obtain ⟨x0, x1⟩ := hb13.cells
    obtain ⟨y0, y1, y2, y3⟩ := hb23.cells
    obtain ⟨z0, z1⟩ := hb33.cells
    have H33 := Lib.hid hb33
    clear hb13 hb23 hb33
    go_region
    all_goals go_wp2_with fail
    have hU : Upd (fun k => k = w.heap.size + 2) w3 (w3.setCell ⟨w.heap.size + 2, 0, none⟩ (.int .i64 (q + 1))).drew := Upd.drew ((Upd.refl (fun k => k = w.heap.size + 2) w3).setCell ⟨w.heap.size + 2, 0, none⟩ (.int .i64 (q + 1)) (fun _ => rfl))
    have hD : IB (w3.setCell ⟨w.heap.size + 2, 0, none⟩ (.int .i64 (q + 1))).drew _ _ := H33.out.set0 (q + 1)
    obtain ⟨e0, -⟩ := hD.cells
    refine bodyPost_ret (v := .tuple #[.agg #[.int .i64 (q + 1)], .string s, .int .i64 0]) (by simp [results, Tryd.results15, go_sem, e0]) rfl ⟨.inl ⟨by first | trivial | rfl, rfl⟩, ?_⟩
    exact hB3.trans (hU.below hB3.size (fun i hi h => by omega))
/-- Hear, what it answers laid ahead. -/
theorem hear15' (h q : Int) (s : ByteArray) (h0 : 0 ≤ h) (h1 : h < 1048576) (q0 : 0 ≤ q) (q1 : q ≤ 1048576) (hs : s.size ≤ 500) :
    ∃ h' s' c, ((q = h ∧ h' = h + 1 ∧ s' = s ∧ c = 0) ∨ (q ≠ h ∧ h' = h ∧ c ≠ 0)) ∧ ∀ w, Calls Tryd.prog 15 #[.agg #[.int .i64 h], .agg #[.int .i64 q, .string s]] w fun e w' => e = .returned (.tuple #[.agg #[.int .i64 h'], .string s', .int .i64 c]) ∧ Below w.heap.size w w' := by
  by_cases hq : q = h
  · refine ⟨h + 1, s, 0, .inl ⟨hq, rfl, rfl, rfl⟩, fun w => (hear15 h q 0 s w (by omega) (by omega) h0 h1 q0 q1 hs).mono ?_⟩
    rintro e w' ⟨⟨-, h⟩ | ⟨h, -⟩, hB⟩
    · exact ⟨h, hB⟩
    · exact absurd hq h
  · obtain ⟨c, hc⟩ : ∃ c : Int, c = if q < h then 10 else 7 := ⟨_, rfl⟩
    have h10 : q < h → c = 10 := fun h => by rw [hc, if_pos h]
    have h7 : h < q → c = 7 := fun h => by rw [hc, if_neg (by omega)]
    refine ⟨h, ⟨#[]⟩, c, .inr ⟨hq, rfl, fun e => ?_⟩, fun w => (hear15 h q c s w h10 h7 h0 h1 q0 q1 hs).mono ?_⟩
    · rcases (show q < h ∨ h < q by omega) with h | h
      · have := h10 h; omega
      · have := h7 h; omega
    rintro e w' ⟨⟨h, -⟩ | ⟨-, h⟩, hB⟩
    · exact absurd h hq
    · exact ⟨h, hB⟩
end Go.Proofs.YtehgbpepaakanaaDoor
