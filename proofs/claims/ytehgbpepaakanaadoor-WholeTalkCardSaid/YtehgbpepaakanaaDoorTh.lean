/-
  party.Acked.
-/
import Derived.Test.YtehgbpepaakanaaDoorTg
namespace Go.Proofs.YtehgbpepaakanaaDoor
open Go.RowKit
set_option linter.unusedVariables false
set_option linter.unusedSimpArgs false
set_option maxRecDepth 20000

attribute [local go_sem] Oper.semAt_some

theorem del_any (a : Option Addr) (m d BH h : Nat) (ps : List Pk) (w : World) (hS : PS w (.slice a m d) ps) (hl : ps.length = m) (hcs : Consec 0 ps) (hhm : h ≤ m) (hm : m ≤ 100) (hne : (Value.slice a m d).ownBlock ≠ some BH) (hh : w.cell? ⟨BH, 0, none⟩ = some (.int .i64 h)) :
    Calls Tryd.prog 43 #[.slice a m d, .func (.func 44) #[] #[.pointer (some ⟨BH, 0, none⟩)]] w fun e w' => ∃ a', e = .returned (.slice a' (m - h) d) ∧ PS w' (.slice a' (m - h) d) (ps.drop h) ∧ (∀ k, (Value.slice a' (m - h) d).ownBlock = some k → (Value.slice a m d).ownBlock = some k) ∧ Upd (fun k => (Value.slice a m d).ownBlock = some k) w w' := by
  by_cases h0 : h = 0
  · subst h0
    refine (del_miss a m d BH ps _ w hS.read hm (fun j x hx => ?_) hh).mono ?_
    · have := (hcs j x hx).1; omega
    · rintro e w' ⟨rfl, hB⟩
      refine ⟨a, rfl, ?_, fun k h => h, Upd.of_below hB _⟩
      rw [List.drop_zero]
      exact hS.upd (Upd.of_below hB (fun _ => False)) (fun _ _ h => h)
  · rcases hS.2 with ⟨h1, h2⟩ | ⟨g, cap, cur, hv, hb, hcur, hnc, hcm, hsz, htake⟩
    · omega
    · simp only [Value.slice.injEq] at hv
      obtain ⟨rfl, -, rfl⟩ := hv
      rw [hl] at htake hnc
      refine (del_hit g m d BH h ps cur w hcur htake hsz hnc hcm hl hcs (by omega) hhm hm (fun e => hne (by rw [e]; rfl)) hh).mono ?_
      rintro e w' ⟨rfl, hS', hU⟩
      exact ⟨_, rfl, hS', fun k h => h, hU.mono (fun k _ e => by rw [e]; rfl)⟩

set_option maxHeartbeats 1600000 in
theorem acked19 (a : Option Addr) (m d h : Nat) (ps : List Pk) (r : Int) (w : World) (hR : PR w a m d ps) (hcs : Consec 0 ps) (hr : 1 ≤ r) (hr2 : r ≤ 100) (hm : (m : Int) ≤ r) (hhm : h ≤ m) :
    Calls Tryd.prog 19 #[.agg #[.int .i64 m, .slice a m d, .int .i64 r], .int .i64 h] w fun e w' => ∃ a' d', e = .returned (.tuple #[.agg #[.int .i64 m, .slice a' (m - h) d', .int .i64 r], .int .i64 0]) ∧
      PS w' (.slice a' (m - h) d') (ps.drop h) ∧ (∀ k, (Value.slice a' (m - h) d').ownBlock = some k → w.heap.size ≤ k) ∧ Below w.heap.size w w' := by
  obtain ⟨w2, hw2⟩ : ∃ w2, ((w.alloc (.cells #[.int .i64 m, .slice a m d, .int .i64 r] 48)).alloc (.cells #[.int .i64 h] 3)).alloc (.cells #[.int .i64 0, .slice none 0 0, .int .i64 0] 48) = w2 := ⟨_, rfl⟩
  have hB2 : Below w.heap.size w w2 := by rw [← hw2]; exact (((Below.refl _ w).alloc (Nat.le_refl _) _).alloc (by simp) _).alloc (by simp; omega) _
  have hb1 : OB w2 w.heap.size m (.slice a m d) r := by rw [← hw2]; exact blk_alloc (blk_alloc (heap_alloc_new w _) _) _
  have hb2 : w2.heap[w.heap.size + 1]? = some (.cells #[.int .i64 h] 3 (0, 0)) := by
    rw [← hw2]
    have := heap_alloc_new (w.alloc (.cells #[.int .i64 m, .slice a m d, .int .i64 r] 48)) (.cells #[.int .i64 h] 3)
    rw [World.size_alloc] at this
    exact blk_alloc this _
  have hb3 : OB w2 (w.heap.size + 2) 0 (.slice none 0 0) 0 := by
    rw [← hw2]
    have := heap_alloc_new ((w.alloc (.cells #[.int .i64 m, .slice a m d, .int .i64 r] 48)).alloc (.cells #[.int .i64 h] 3)) (.cells #[.int .i64 0, .slice none 0 0, .int .i64 0] 48)
    rw [World.size_alloc, World.size_alloc] at this
    exact this
  have hz : w2.heap.size = w.heap.size + 3 := by rw [← hw2]; simp
  have hm100 : m ≤ 100 := by omega
  have hlen := hR.len
  have HCl := Lib.hid (clone40 a m d ps w2 (hR.below hB2) hm100)
  have hl1 := lt_of_heap hb1
  have hl2 := lt_of_heap hb2
  have hl3 := lt_of_heap hb3
  obtain ⟨x0, x1, x2, -⟩ := hb1.cells
  have H1 := Lib.hid hb1
  have H2 := Lib.hid hb2
  have H3 := Lib.hid hb3
  have HC := Lib.hid hcs
  have HW2 := Lib.hid hw2
  have HLen := Lib.hid hlen
  clear hR hcs hb1 hb2 hb3 hw2 hlen
  go_enter Tryd.func19, Tryd.ntmps19
  go_upto_region 1 with fail
  rw [HW2.out]
  go_wp2_with fail
  refine HCl.out.mono ?_
  rintro e w3 ⟨a3, d3, rfl, hS, hk, hB3⟩
  have hb13 : OB w3 w.heap.size m (.slice a m d) r := (hB3.block _ hl1).trans H1.out
  obtain ⟨w4, hw4⟩ : ∃ w4, w3.setCell ⟨w.heap.size, 1, none⟩ (.slice a3 m d3) = w4 := ⟨_, rfl⟩
  have hb14 : OB w4 w.heap.size m (.slice a3 m d3) r := by rw [← hw4]; exact hb13.set1 _
  have hU4 : Upd (fun k => k = w.heap.size) w3 w4 := by rw [← hw4]; exact (Upd.refl (fun k => k = w.heap.size) w3).setCell ⟨w.heap.size, 1, none⟩ _ (fun _ => rfl)
  have hb24 := hU4.heap ((hB3.block _ hl2).trans H2.out) (by omega)
  have hb34 : OB w4 (w.heap.size + 2) 0 (.slice none 0 0) 0 := hU4.heap ((hB3.block _ hl3).trans H3.out) (by omega)
  have hS4 : PS w4 (.slice a3 m d3) ps := hS.upd hU4 (fun k h e => by have := hk k h; omega)
  have hB4 : Below w.heap.size w w4 := (hB2.trans (hB3.mono hB2.size)).trans (hU4.below (Nat.le_trans hB2.size hB3.size) (fun i hi e => by omega))
  have hz4 : w.heap.size + 3 ≤ w4.heap.size := by have := hB3.size; have := hU4.size; omega
  obtain ⟨p0, p1, p2, q0, q1, q2⟩ := hb13.cells
  have HR := Lib.hid (right41 m a3 m d3 ps r w4 hS4.read (by rw [Int.sub_self]; exact HC.out) hr hr2 hm (by omega) (by omega))
  have HK := Lib.hid hk
  have H14 := Lib.hid hb14
  have H24 := Lib.hid hb24
  have H34 := Lib.hid hb34
  have HS4 := Lib.hid hS4
  have HW4 := Lib.hid hw4
  have HB4 := Lib.hid hB4
  clear hb13 hb14 hb24 hb34 hS hk hS4 hw4 hB3 hB4 hU4
  clear x0 x1 x2
  go_upto_region 2 with fail
  rw [HW4.out]
  clear p0 p1 p2 q0 q1 q2
  obtain ⟨p0, p1, p2, q0, q1, q2⟩ := H14.out.cells
  go_wp2_with fail
  refine HR.out.mono ?_
  rintro e w5 ⟨rfl, hB5⟩
  have hb15 : OB w5 w.heap.size m (.slice a3 m d3) r := (hB5.block _ (by omega)).trans H14.out
  have hb25 := (hB5.block _ (by omega)).trans H24.out
  have hb35 : OB w5 (w.heap.size + 2) 0 (.slice none 0 0) 0 := (hB5.block _ (by omega)).trans H34.out
  have hS5 : PS w5 (.slice a3 m d3) ps := HS4.out.upd (Upd.of_below hB5 (fun _ => False)) (fun _ _ h => h)
  have hB05 : Below w.heap.size w w5 := HB4.out.trans (hB5.mono HB4.out.size)
  have hz5 := hB5.size
  have hc5 : w5.cell? ⟨w.heap.size + 1, 0, none⟩ = some (.int .i64 h) := by rw [blk_cell hb25]; rfl
  have HD := Lib.hid (del_any a3 m d3 (w.heap.size + 1) h ps w5 hS5 HLen.out HC.out hhm hm100 (fun e => by have := HK.out _ e; omega) hc5)
  have hd1 : decide ((h : Int) < 0) = false := decide_eq_false (by omega)
  have hd2 : decide ((m : Int) < (h : Int)) = false := decide_eq_false (by omega)
  have H15 := Lib.hid hb15
  have H35 := Lib.hid hb35
  have HB5 := Lib.hid hB05
  have HS5 := Lib.hid hS5
  clear p0 p1 p2 q0 q1 q2
  obtain ⟨p0, p1, p2, q0, q1, q2⟩ := hb15.cells
  clear hb15 hb25 hb35 hS5 hB05 hB5
  go_wp2_with fail
  refine HD.out.mono ?_
  rintro e w6 ⟨a6, rfl, hS6, hk6, hU6⟩
  have hk5 : ∀ k, (Value.slice a3 m d3).ownBlock = some k → w.heap.size + 3 ≤ k := fun k h => by have := HK.out k h; omega
  have hb16 : OB w6 w.heap.size m (.slice a3 m d3) r := H15.out.upd hU6 (fun e => by have := hk5 _ e; omega)
  have hb36 : OB w6 (w.heap.size + 2) 0 (.slice none 0 0) 0 := H35.out.upd hU6 (fun e => by have := hk5 _ e; omega)
  have hB6 : Below w.heap.size w w6 := HB5.out.trans (hU6.below (by omega) (fun i hi e => by have := hk5 _ e; omega))
  obtain ⟨w7, hw7⟩ : ∃ w7, w6.setCell ⟨w.heap.size, 1, none⟩ (.slice a6 (m - h) d3) = w7 := ⟨_, rfl⟩
  have hU7 : Upd (fun k => k = w.heap.size) w6 w7 := by rw [← hw7]; exact (Upd.refl (fun k => k = w.heap.size) w6).setCell ⟨w.heap.size, 1, none⟩ _ (fun _ => rfl)
  have hb17 : OB w7 w.heap.size m (.slice a6 (m - h) d3) r := by rw [← hw7]; exact hb16.set1 _
  have hb37 : OB w7 (w.heap.size + 2) 0 (.slice none 0 0) 0 := hb36.upd hU7 (by omega)
  have hS7 : PS w7 (.slice a6 (m - h) d3) (ps.drop h) := hS6.upd hU7 (fun k h e => by have := hk5 _ (hk6 k h); omega)
  have hB7 := hB6.trans (hU7.below hB6.size (fun i hi e => by omega))
  clear p0 p1 p2 q0 q1 q2
  obtain ⟨p0, p1, p2, q0, q1, q2⟩ := hb16.cells
  have H17 := Lib.hid hb17
  have H37 := Lib.hid hb37
  have HS7 := Lib.hid hS7
  have HB7 := Lib.hid hB7
  have HK7 := Lib.hid (fun k (h' : (Value.slice a6 (m - h) d3).ownBlock = some k) => hk5 k (hk6 k h'))
  have HW7 := Lib.hid hw7
  clear hb16 hb36 hb17 hb37 hS6 hS7 hB6 hB7 hU6 hU7 hk6 hk5 hw7
  go_upto_region 5 with fail
  rw [HW7.out]
  clear p0 p1 p2 q0 q1 q2
  obtain ⟨p0, p1, p2, q0, q1, q2⟩ := H17.out.cells
  obtain ⟨y0, y1, y2, z0, z1, z2⟩ := H37.out.cells
  go_wp2_with fail
  have hD : OB (((w7.setCell ⟨w.heap.size + 2, 0, none⟩ (.int .i64 m)).setCell ⟨w.heap.size + 2, 1, none⟩ (.slice a6 (m - h) d3)).setCell ⟨w.heap.size + 2, 2, none⟩ (.int .i64 r)) (w.heap.size + 2) _ _ _ := ((H37.out.set0 m).set1 (.slice a6 (m - h) d3)).set2 r
  have hU : Upd (fun k => k = w.heap.size + 2) w7 (((w7.setCell ⟨w.heap.size + 2, 0, none⟩ (.int .i64 m)).setCell ⟨w.heap.size + 2, 1, none⟩ (.slice a6 (m - h) d3)).setCell ⟨w.heap.size + 2, 2, none⟩ (.int .i64 r)) := (((Upd.refl (fun k => k = w.heap.size + 2) w7).setCell ⟨w.heap.size + 2, 0, none⟩ _ (fun _ => rfl)).setCell ⟨w.heap.size + 2, 1, none⟩ _ (fun _ => rfl)).setCell ⟨w.heap.size + 2, 2, none⟩ _ (fun _ => rfl)
  obtain ⟨e0, e1, e2, -⟩ := hD.cells
  refine bodyPost_ret (v := .tuple #[.agg #[.int .i64 m, .slice a6 (m - h) d3, .int .i64 r], .int .i64 0]) (by simp [results, Tryd.results19, go_sem, e0, e1, e2]) rfl ⟨a6, d3, rfl, HS7.out.upd hU ?_, fun k h => ?_, ?_⟩
  · intro k h e
    have := HK7.out k h; omega
  · have := HK7.out k h; omega
  · exact HB7.out.trans (hU.below HB7.out.size (fun i hi h => by omega))
end Go.Proofs.YtehgbpepaakanaaDoor
