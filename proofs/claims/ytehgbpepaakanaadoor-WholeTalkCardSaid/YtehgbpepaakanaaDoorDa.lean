/-
  The disk: Sync, Crash.
-/
import Derived.Test.YtehgbpepaakanaaDoorCj
namespace Go.Proofs.YtehgbpepaakanaaDoor
open Go.RowKit Go.Shelf
set_option linter.unusedVariables false
set_option linter.unusedSimpArgs false
set_option maxRecDepth 20000

attribute [local go_sem] Oper.semAt_some

/-- What a call makes that tells a disk of its own. -/
def DiskPost (w : World) (m : Nat) (s r : Int) (bs : List Int) (e : Ending) (w' : World) : Prop :=
  ∃ a' d', e = .returned (.agg #[.slice a' m d', .int .i64 s, .int .i64 r]) ∧ BS w' (.slice a' m d') bs ∧ (∀ k, (Value.slice a' m d').ownBlock = some k → w.heap.size ≤ k) ∧ Below w.heap.size w w'

set_option maxHeartbeats 1000000 in
theorem sync24 (a : Option Addr) (m d : Nat) (bs : List Int) (s r : Int) (w : World) (h : BR w a m d bs) (hm : m ≤ 140737488351232) :
    Calls Tryd.prog 24 #[.agg #[.slice a m d, .int .i64 s, .int .i64 r]] w (DiskPost w m m r bs) := by
  obtain ⟨w2, hw2⟩ : ∃ w2, (w.alloc (.cells #[.slice a m d, .int .i64 s, .int .i64 r] 67)).alloc (.cells #[.slice none 0 0, .int .i64 0, .int .i64 0] 67) = w2 := ⟨_, rfl⟩
  have hB : Below w.heap.size w w2 := by rw [← hw2]; exact ((Below.refl _ w).alloc (Nat.le_refl _) _).alloc (by simp) _
  have hb1 : DB w2 w.heap.size (.slice a m d) s r := by rw [← hw2]; exact blk_alloc (World.alloc_heap_new w _) _
  have hb2 : DB w2 (w.heap.size + 1) (.slice none 0 0) 0 0 := by rw [← hw2]; have := World.alloc_heap_new (w.alloc (.cells #[.slice a m d, .int .i64 s, .int .i64 r] 67)) (.cells #[.slice none 0 0, .int .i64 0, .int .i64 0] 67); rwa [World.size_alloc] at this
  have hc := Lib.hid (own46 a m d bs s r w2 (h.below hB) hm)
  have hz : w2.heap.size = w.heap.size + 2 := by rw [← hw2]; simp
  have hl1 := lt_of_heap hb1
  have hl2 := lt_of_heap hb2
  obtain ⟨x0, x1, x2, -⟩ := hb1.cells
  have H1 := Lib.hid hb1
  have H2 := Lib.hid hb2
  have HW2 := Lib.hid hw2
  clear h hb1 hb2 hw2
  go_enter Tryd.func24, Tryd.ntmps24
  go_upto_region 1 with fail
  rw [HW2.out]
  go_wp2_with fail
  refine hc.out.mono ?_
  rintro e w3 ⟨a', d', rfl, hS, hk, hB3⟩
  have hb13 : DB w3 w.heap.size (.slice a m d) s r := (hB3.block _ hl1).trans H1.out
  have hb23 : DB w3 (w.heap.size + 1) (.slice none 0 0) 0 0 := (hB3.block _ hl2).trans H2.out
  obtain ⟨w4, hw4⟩ : ∃ w4, ((w3.setCell ⟨w.heap.size, 0, none⟩ (.slice a' m d')).setCell ⟨w.heap.size, 1, none⟩ (.int .i64 (min s m))).setCell ⟨w.heap.size, 2, none⟩ (.int .i64 r) = w4 := ⟨_, rfl⟩
  have hb14 : DB w4 w.heap.size (.slice a' m d') (min s m) r := by rw [← hw4]; exact (((hb13.set0 (.slice a' m d')).set1 (min s m)).set2 r)
  have hU4 : Upd (fun k => k = w.heap.size) w3 w4 := by rw [← hw4]; exact (((Upd.refl (fun k => k = w.heap.size) w3).setCell ⟨w.heap.size, 0, none⟩ _ (fun _ => rfl)).setCell ⟨w.heap.size, 1, none⟩ _ (fun _ => rfl)).setCell ⟨w.heap.size, 2, none⟩ _ (fun _ => rfl)
  have hb24 : DB w4 (w.heap.size + 1) (.slice none 0 0) 0 0 := hb23.upd hU4 (by omega)
  have hS4 : BS w4 (.slice a' m d') bs := hS.upd hU4 (fun k h e => by have := hk k h; omega)
  have hB4 : Below w.heap.size w w4 := (hB.trans (hB3.mono hB.size)).trans (hU4.below (Nat.le_trans hB.size hB3.size) (fun i hi e => by omega))
  obtain ⟨p0, p1, p2, q0, q1, q2⟩ := hb13.cells
  clear x0 x1 x2
  have HS := Lib.hid hS4
  have HK := Lib.hid hk
  have H14 := Lib.hid hb14
  have H24 := Lib.hid hb24
  have HW4 := Lib.hid hw4
  clear hS hk hb13 hb23 hb14 hb24 hS4 hw4
  go_upto_region 2 with fail
  rw [HW4.out]
  clear p0 p1 p2 q0 q1 q2
  obtain ⟨p0, p1, p2, q0, q1, q2⟩ := H14.out.cells
  obtain ⟨y0, y1, y2, z0, z1, z2⟩ := H24.out.cells
  go_wp2_with fail
  have hD : DB _ (w.heap.size + 1) _ _ _ := ((((H24.out.far ⟨w.heap.size, 1, none⟩ (by show w.heap.size + 1 ≠ w.heap.size; omega) (.int .i64 m)).set0 (.slice a' m d')).set1 m).set2 r)
  have hU : Upd (fun k => k = w.heap.size ∨ k = w.heap.size + 1) w4 _ := ((((Upd.refl (fun k => k = w.heap.size ∨ k = w.heap.size + 1) w4).setCell ⟨w.heap.size, 1, none⟩ (.int .i64 m) (fun _ => .inl rfl)).setCell ⟨w.heap.size + 1, 0, none⟩ (.slice a' m d') (fun _ => .inr rfl)).setCell ⟨w.heap.size + 1, 1, none⟩ (.int .i64 m) (fun _ => .inr rfl)).setCell ⟨w.heap.size + 1, 2, none⟩ (.int .i64 r) (fun _ => .inr rfl)
  obtain ⟨e0, e1, e2, -⟩ := hD.cells
  refine bodyPost_ret (v := .agg #[.slice a' m d', .int .i64 m, .int .i64 r]) (by simp [results, Tryd.results24, go_sem, e0, e1, e2]) rfl ⟨a', d', rfl, HS.out.upd hU ?_, fun k h => Nat.le_trans hB.size (HK.out k h), ?_⟩
  · rintro k h (e | e)
    · have := HK.out k h; omega
    · have := HK.out k h; omega
  · exact hB4.trans (hU.below hB4.size (fun i hi h => by omega))

/-- A region that draws: reads ahead of a forced tail. -/
theorem region_still_at {P : Program} {id : Nat} {Q : Exit → Act → World → Prop} {a : Act} {w : World} {l : List Oper} (n : Nat) (hm : P.follows .mixedOrders = true) (hB : Region.lexTailB .any l.toArray n = true)
    (h : ∀ w2, w2 = w.drew → wpStill P l.toArray w2 (fun a' => wpList P l.toArray Q (l.drop n) a' w2) (l.take n) a) : (Code.region id l.toArray true).wp P Q a w :=
  wp_region_still_tail n hm hB (h _ rfl)

set_option maxHeartbeats 1000000 in
theorem crash23 (a : Option Addr) (m d : Nat) (bs : List Int) (r : Int) (w : World) (h : BR w a m d bs) (hm : m ≤ 140737488351232) :
    Calls Tryd.prog 23 #[.agg #[.slice a m d, .int .i64 m, .int .i64 r], .int .u16 0] w (DiskPost w m m r bs) := by
  obtain ⟨w2, hw2⟩ : ∃ w2, (w.alloc (.cells #[.slice a m d, .int .i64 m, .int .i64 r] 67)).alloc (.cells #[.slice none 0 0, .int .i64 0, .int .i64 0] 67) = w2 := ⟨_, rfl⟩
  have hB : Below w.heap.size w w2 := by rw [← hw2]; exact ((Below.refl _ w).alloc (Nat.le_refl _) _).alloc (by simp) _
  have hb1 : DB w2 w.heap.size (.slice a m d) m r := by rw [← hw2]; exact blk_alloc (World.alloc_heap_new w _) _
  have hb2 : DB w2 (w.heap.size + 1) (.slice none 0 0) 0 0 := by rw [← hw2]; have := World.alloc_heap_new (w.alloc (.cells #[.slice a m d, .int .i64 m, .int .i64 r] 67)) (.cells #[.slice none 0 0, .int .i64 0, .int .i64 0] 67); rwa [World.size_alloc] at this
  have hz : w2.heap.size = w.heap.size + 2 := by rw [← hw2]; simp
  have hl1 := lt_of_heap hb1
  have hl2 := lt_of_heap hb2
  obtain ⟨x0, x1, x2, -⟩ := hb1.cells
  have H1 := Lib.hid hb1
  have H2 := Lib.hid hb2
  have HW2 := Lib.hid hw2
  have HR := Lib.hid (h.below hB)
  have hmm : (m : Int) - (m : Int) = 0 := by omega
  clear h hb1 hb2 hw2
  go_enter Tryd.func23, Tryd.ntmps23
  go_upto_region 1 with fail
  rw [HW2.out]
  go_upto_region 2 with fail
  refine region_still_at 9 (by kernel_rfl) (by kernel_rfl) (fun A2 hA2 => ?_)
  have hU2 : Upd (fun _ => False) w2 A2 := by rw [hA2]; exact (Upd.refl _ w2).drew
  have hBA : Below w.heap.size w A2 := hB.trans (hU2.below hB.size (fun _ _ h => h))
  have hRA : BR A2 a m d bs := HR.out.below (hU2.below (Nat.le_refl _) (fun _ _ h => h))
  have hb1 : DB A2 w.heap.size (.slice a m d) m r := H1.out.upd hU2 (fun h => h)
  have hb2 : DB A2 (w.heap.size + 1) (.slice none 0 0) 0 0 := H2.out.upd hU2 (fun h => h)
  have hzA := hU2.size
  have hc := Lib.hid (own46 a m d bs m r A2 hRA hm)
  obtain ⟨x0, x1, x2, -⟩ := hb1.cells
  have H2A := Lib.hid hb2
  clear hA2 hU2 hRA hb1 hb2
  simp only [List.take_succ_cons, List.take_zero, List.drop_succ_cons, List.drop_zero]
  have hwr0 : IntKind.i64.wrap 0 = 0 := by decide
  have hwr1 : IntKind.i64.wrap 1 = 1 := by decide
  have hwrm : IntKind.i64.wrap (m : Int) = (m : Int) := by rw [IntKind.wrap_i64]; omega
  repeat still_step
  refine wpStill_nil ?_
  go_wp2_with fail
  refine hc.out.mono ?_
  rintro e w3 ⟨a', d', rfl, hS, hk, hB3⟩
  have hmm2 : min (m : Int) (m : Int) = m := Int.min_self _
  rw [hmm2]
  have hs := Lib.hid (sync24 a' m d' bs m r w3 hS.read hm)
  have hb23 : DB w3 (w.heap.size + 1) (.slice none 0 0) 0 0 := (hB3.block _ (by omega)).trans H2A.out
  have hz3 := hB3.size
  have H23 := Lib.hid hb23
  clear hS hk hb23
  go_wp2_with fail
  refine hs.out.mono ?_
  rintro e w4 ⟨a4, d4, rfl, hS4, hk4, hB4⟩
  have hb24 : DB w4 (w.heap.size + 1) (.slice none 0 0) 0 0 := (hB4.block _ (by omega)).trans H23.out
  obtain ⟨y0, y1, y2, z0, z1, z2⟩ := hb24.cells
  have HS4 := Lib.hid hS4
  have HK4 := Lib.hid hk4
  have H24 := Lib.hid hb24
  clear hS4 hk4 hb24
  go_wp2_with fail
  have hD : DB _ (w.heap.size + 1) _ _ _ := (((H24.out.set0 (.slice a4 m d4)).set1 m).set2 r)
  have hU : Upd (fun k => k = w.heap.size ∨ k = w.heap.size + 1) w4 _ := (((Upd.refl (fun k => k = w.heap.size ∨ k = w.heap.size + 1) w4).setCell ⟨w.heap.size + 1, 0, none⟩ (.slice a4 m d4) (fun _ => .inr rfl)).setCell ⟨w.heap.size + 1, 1, none⟩ (.int .i64 m) (fun _ => .inr rfl)).setCell ⟨w.heap.size + 1, 2, none⟩ (.int .i64 r) (fun _ => .inr rfl)
  obtain ⟨e0, e1, e2, -⟩ := hD.cells
  have hB34 : Below w.heap.size w w4 := (hBA.trans (hB3.mono hBA.size)).trans (hB4.mono (by omega))
  refine bodyPost_ret (v := .agg #[.slice a4 m d4, .int .i64 m, .int .i64 r]) (by simp [results, Tryd.results23, go_sem, e0, e1, e2]) rfl ⟨a4, d4, rfl, HS4.out.upd hU ?_, fun k h => by have := HK4.out k h; omega, ?_⟩
  · rintro k h (e | e)
    · have := HK4.out k h; omega
    · have := HK4.out k h; omega
  · exact hB34.trans (hU.below hB34.size (fun i hi h => by omega))
end Go.Proofs.YtehgbpepaakanaaDoor
