/-
  The reference of air: Take, of a letter that is there.
-/
import Derived.Test.YtehgbpepaakanaaU
namespace Go.Proofs.Ytehgbpepaakanaa
open Go.RowKit Go.Joins
set_option linter.unusedVariables false
set_option linter.unusedSimpArgs false

theorem drew_heap (w : World) (k : Nat) : w.drew.heap[k]? = w.heap[k]? := rfl

theorem er_skip (xs : List LX) (k : Nat) (hk : k < xs.length) : (xs.take (k + 1)).eraseIdx k = (xs.take k).eraseIdx k := by
  have hl : (xs.take k).length = k := by rw [List.length_take]; omega
  have e : ((xs.take k) ++ [xs[k]]).eraseIdx (xs.take k).length = xs.take k := by rw [List.eraseIdx_append_of_length_le (Nat.le_refl _), Nat.sub_self]; simp
  rw [hl] at e
  rw [List.take_add_one, List.getElem?_eq_getElem hk, List.eraseIdx_of_length_le (l := xs.take k) (by omega)]
  exact e
theorem er_next (xs : List LX) (j k : Nat) (x : LX) (hx : xs[j]? = some x) (hjk : j ≠ k) : (xs.take (j + 1)).eraseIdx k = (xs.take j).eraseIdx k ++ [x] := by
  have hj := (List.getElem?_eq_some_iff.1 hx).1
  rw [List.take_add_one, hx]
  by_cases h : k < j
  · rw [List.eraseIdx_append_of_lt_length (by rw [List.length_take]; omega)]; rfl
  · rw [List.eraseIdx_append_of_length_le (by rw [List.length_take]; omega), List.eraseIdx_of_length_le (l := xs.take j) (by rw [List.length_take]; omega), List.eraseIdx_of_length_le (by simp [List.length_take]; omega)]
    rfl

theorem find_lt (t : Int) (xs : List LX) (k k' : Nat) (x : LX) (hk : xs[k]? = some x) (hx : x.lv.t = t) (h : k < k') : (toEnd t (xs.take k)).length < (toEnd t (xs.take k')).length := by
  have h1 := toEnd_yes t xs k x hk hx
  have h2 : (toEnd t (xs.take (k + 1))).length ≤ (toEnd t (xs.take k')).length := ((List.take_sublist_take_left (by omega)).filter _).length_le
  rw [h1] at h2
  simp at h2
  omega

set_option maxHeartbeats 1000000 in
theorem refTake_ok (room t i : Int) (w : World) (h : t < 17) (al : Option Addr) (nl cl : Nat) (xs : List LX) (hR : RL w al nl cl xs) (k : Nat) (x : LX) (hk : xs[k]? = some x) (hkt : x.lv.t = t) (hi : ((toEnd t (xs.take k)).length : Int) = i) (hcap : nl ≤ 10000) :
    Calls Try.prog 27 #[.agg #[.slice al nl cl, .int .i64 room], .int .u8 t, .int .i64 i] w fun e w' => ∃ a' n' c', e = .returned (.tuple #[.agg #[.slice a' n' c', .int .i64 room], .agg #[.int .u8 x.lv.f, .int .u8 x.lv.t, .slice x.lv.a x.lv.m x.lv.d], .int .i64 0]) ∧ RL w' a' n' c' (xs.eraseIdx k) ∧ Fresh w w' a' ∧ Below w.heap.size w w' := by
  obtain ⟨w3, hw3, b1, b2, b3, hB⟩ := three_box w #[.slice al nl cl, .int .i64 room] #[.slice none 0 0, .int .i64 0] #[.int .u8 0, .int .u8 0, .slice none 0 0] 38 38 48
  have H1 := Lib.hid b1
  have H2 := Lib.hid b2
  have H3 := Lib.hid b3
  have HW := Lib.hid hw3
  have HRL := Lib.hid hR
  have HF := Lib.hid (refFind al nl cl xs room t i w3 (hR.below hB))
  clear b1 b2 b3 hw3 hR
  go_enter Try.func27, Try.ntmps27
  go_wp2_with fail
  rw [HW.out]
  refine HF.out.mono ?_
  rintro e w4 ⟨hB4, hr⟩
  obtain rfl : e = .returned (.int .i64 k) := by
    rcases hr with ⟨k', x', rfl, hk', hx', hl'⟩ | ⟨rfl, hc⟩
    · have : k' = k := by
        rcases Nat.lt_trichotomy k' k with h | h | h
        · have := find_lt t xs k' k x' hk' hx' h; omega
        · exact h
        · have := find_lt t xs k k' x hk hkt h; omega
      rw [this]
    · exfalso
      have := find_lt t xs k xs.length x hk hkt (List.getElem?_eq_some_iff.1 hk).1
      rw [List.take_length] at this
      omega
  have hn17 : ¬ 17 ≤ t := by omega
  have hm1 := H1.out
  have hm2 := H2.out
  have hm3 := H3.out
  have c1 := (hB4.block _ (lt_of_heap hm1)).trans hm1
  have c2 := (hB4.block _ (lt_of_heap hm2)).trans hm2
  have c3 := (hB4.block _ (lt_of_heap hm3)).trans hm3
  have x0 := blk_cell c1 0
  have x1 := blk_cell c1 1
  have y0 := blk_cell c2 0
  have y1 := blk_cell c2 1
  have z0 := blk_cell c3 0
  have z1 := blk_cell c3 1
  have z2 := blk_cell c3 2
  have f0 := blk_frozen c2 0
  have f1 := blk_frozen c2 1
  have g0 := blk_frozen c3 0
  have g1 := blk_frozen c3 1
  have g2 := blk_frozen c3 2
  simp at x0 x1 y0 y1 z0 z1 z2
  have C1 := Lib.hid c1
  have C2 := Lib.hid c2
  have C3 := Lib.hid c3
  clear hm1 hm2 hm3 c1 c2 c3 hr
  go_wp2_with fail
  have hnl : xs.length = nl := HRL.out.1
  have hkl : k < nl := hnl ▸ (List.getElem?_eq_some_iff.1 hk).1
  obtain ⟨i0, hi0, hz0', hz1, hz2⟩ := info_parts Try.infoL3
  have hw41 := lt_of_heap C1.out
  have hw42 := lt_of_heap C2.out
  have hw43 := lt_of_heap C3.out
  have B04 := hB.trans (hB4.mono hB.size)
  have HK := Lib.hid hk
  clear x0 x1 y0 y1 z0 z1 z2 f0 f1 g0 g1 g2 hk
  go_loopw [10, 11] (fun sv ix wr => ∃ (j : Nat) (v : Value), j ≤ nl ∧ ix = .int .i64 j ∧ v = sv ∧ wr.ownsRow w4.heap.size 48 3 v ((xs.take j).eraseIdx k).length (cellsOf enc3 (((xs.take j).eraseIdx k).map LX.lv)) ∧ Below w4.heap.size w4 wr) (fun _ ix _ => nl - (intOf ix).toNat)
  case atStart => exact ⟨0, _, Nat.zero_le _, rfl, rfl, World.ownsRow_nil _ _ _ _, Below.refl _ _⟩
  case round =>
    obtain ⟨j, v, hj, rfl, rfl, hM, hBr⟩ := hrel
    have c1 := (hBr.block _ hw41).trans C1.out
    have q0 := blk_cell c1 0
    simp at q0
    have hl1 := lt_of_heap c1
    clear c1
    by_cases hlt : j < nl
    · obtain ⟨y, hy⟩ : ∃ y, xs[j]? = some y := ⟨_, List.getElem?_eq_getElem (by omega)⟩
      obtain ⟨b0, off, rfl, hc0, hc1, hc2, hbx⟩ := ((HRL.out.below B04).below hBr).get hy
      have hji : (j : Int) < (nl : Int) := by omega
      have HY := Lib.hid hy
      clear hbx hy
      by_cases hjk : j = k
      · subst hjk
        have HS := Lib.hid (er_skip xs j (by omega))
        have HM := Lib.hid hM
        clear hM hc0 hc1 hc2
        go_wp2_with fail
        go_roundw
        case rel => exact ⟨j + 1, v, by omega, by go_num, rfl, by rw [HS.out]; exact HM.out, hBr⟩
        case measure => simp [intOf]; omega
      · have hjki : ((j : Int) != (k : Int)) = true := by simp; omega
        have HN := Lib.hid (er_next xs j k y HY.out hjk)
        have hle : ((xs.take j).eraseIdx k).length ≤ j := by
          have := (List.eraseIdx_sublist (xs.take j) k).length_le
          rw [List.length_take] at this
          omega
        have hown1 : (wr.alloc (.cells #[.int .u8 y.lv.f, .int .u8 y.lv.t, .slice y.lv.a y.lv.m y.lv.d] 48)).ownsRow w4.heap.size 48 3 v ((xs.take j).eraseIdx k).length (cellsOf enc3 (((xs.take j).eraseIdx k).map LX.lv)) := World.ownsRow.alloc (w := wr) hM _
        have HM := Lib.hid hM
        have hsz := hBr.size
        clear hM
        go_wp2_with (at_builtin; refine wpList_append_own _ rfl _ _ 36 rfl w4.heap.size 48 i0 (.agg #[.int .u8 0, .int .u8 0, .slice none 0 0]) 3 32 Try.underlying36 hi0 hz0' hz1 hz2 rfl (by decide) _ _ _ rfl hown1 ⟨wr.heap.size, 0, none⟩ 1 1 [.int .u8 y.lv.f, .int .u8 y.lv.t, .slice y.lv.a y.lv.m y.lv.d] rfl ?qd1 ?qd2 ?qd3 ?qd4 ?qd5 ?qd6 ?_)
        case qd1 => rfl
        case qd2 => exact news_new wr _ _
        case qd3 => intro u hu; simp at hu; rcases hu with rfl | rfl | rfl <;> rfl
        case qd4 => unfold maxLen; omega
        case qd5 => omega
        case qd6 => simp; omega
        intro v7 w7 hown7 hgrow7 hnil7
        have hB7 : Below w4.heap.size w4 w7 := (hBr.alloc hsz _).grown hgrow7 (by simp; omega) (fun q hq => (HM.out.lt q hq).1)
        have hO7 : Hid (w7.ownsRow w4.heap.size 48 3 v7 ((xs.take (j + 1)).eraseIdx k).length (cellsOf enc3 (((xs.take (j + 1)).eraseIdx k).map LX.lv))) := by
          rw [Hid, HN.out, List.length_append, List.map_append]
          simpa [cellsOf, enc3] using hown7
        clear hown1 hown7 hgrow7 hnil7
        go_wp2_with fail
        go_roundw
        case rel => exact ⟨j + 1, v7, by omega, by go_num, rfl, hO7.out, hB7⟩
        case measure => simp [intOf]; omega
    · obtain rfl : j = nl := by omega
      rw [List.take_of_length_le (by omega)] at hM
      have HM := Lib.hid hM
      obtain ⟨b0, off, rfl, hc0, hc1, hc2, hbx⟩ := ((HRL.out.below B04).below hBr).get HK.out
      have hki : (k : Int) < (j : Int) := by omega
      obtain ⟨nv, hnv⟩ : ∃ nv, nv = (xs.eraseIdx k).length := ⟨_, rfl⟩
      obtain ⟨av, cv, rfl⟩ : ∃ av cv, v = .slice av nv cv := by
        rw [hnv]
        rcases hM.2 with ⟨h1, h2⟩ | ⟨g', cap, cur, h1, _⟩
        · rw [h2]; exact ⟨_, _, h1⟩
        · exact ⟨_, _, h1⟩
      have c1 := (hBr.block _ hw41).trans C1.out
      have c2 := (hBr.block _ hw42).trans C2.out
      have c3 := (hBr.block _ hw43).trans C3.out
      obtain ⟨w5, hw5, hb5, hB5⟩ := let48_box x.lv.f t x.lv.a x.lv.m x.lv.d wr
      obtain ⟨w6, hw6⟩ : ∃ w6, w5.setCell ⟨w.heap.size, 0, none⟩ (.slice av nv cv) = w6 := ⟨_, rfl⟩
      have hwr := lt_of_heap c3
      have r1 := blk_set ((hB5.block _ (lt_of_heap c1)).trans c1) 0 (.slice av nv cv)
      have r2 := blk_far ((hB5.block _ (lt_of_heap c2)).trans c2) ⟨w.heap.size, 0, none⟩ (by show w.heap.size + 1 ≠ w.heap.size; omega) (.slice av nv cv)
      have r3 := blk_far ((hB5.block _ (lt_of_heap c3)).trans c3) ⟨w.heap.size, 0, none⟩ (by show w.heap.size + 1 + 1 ≠ w.heap.size; omega) (.slice av nv cv)
      have hb6 := blk_far hb5 ⟨w.heap.size, 0, none⟩ (by show wr.heap.size ≠ w.heap.size; omega) (.slice av nv cv)
      have p0' := blk_cell ((hB5.block _ (lt_of_heap c1)).trans c1) 0
      have p1' := blk_cell ((hB5.block _ (lt_of_heap c1)).trans c1) 1
      have pf' := blk_frozen ((hB5.block _ (lt_of_heap c1)).trans c1) 0
      rw [hw6] at r1 r2 r3 hb6
      have hl6 := lt_of_heap hb6
      have p0 := blk_cell r1 0
      have p1 := blk_cell r1 1
      have y0 := blk_cell r2 0
      have y1 := blk_cell r2 1
      have yf0 := blk_frozen r2 0
      have yf1 := blk_frozen r2 1
      have z0 := blk_cell r3 0
      have z1 := blk_cell r3 1
      have z2 := blk_cell r3 2
      have zf0 := blk_frozen r3 0
      have zf1 := blk_frozen r3 1
      have zf2 := blk_frozen r3 2
      have v0 := blk_cell hb6 0
      have v1 := blk_cell hb6 1
      have v2 := blk_cell hb6 2
      simp at p0 p1 y0 y1 z0 z1 z2 v0 v1 v2 p0' p1'
      have R1 := Lib.hid r1
      have R2 := Lib.hid r2
      have R3 := Lib.hid r3
      have V6 := Lib.hid hb6
      have HNV := Lib.hid hnv
      have HKT := Lib.hid hkt
      have hkt2 : x.lv.t = t := hkt
      clear hM hbx c1 c2 c3 r1 r2 r3 hb5 hb6 hnv
      go_wp2_with fail
      have hne1 : ¬ wr.heap.size = w.heap.size := by omega
      have hne2 : ¬ wr.heap.size = w.heap.size + 1 := by omega
      have hne3 : ¬ wr.heap.size = w.heap.size + 1 + 1 := by omega
      have hnf1 : ¬ w.heap.size = wr.heap.size := by omega
      have hnf2 : ¬ w.heap.size + 1 = wr.heap.size := by omega
      have hnf3 : ¬ w.heap.size + 1 + 1 = wr.heap.size := by omega
      go_region
      all_goals (go_wp2_with fail)
      obtain ⟨wf, hwf⟩ : ∃ wf, (((((w6.setCell ⟨w.heap.size + 1, 0, none⟩ (.slice av nv cv)).setCell ⟨w.heap.size + 1, 1, none⟩ (.int .i64 room)).setCell ⟨w.heap.size + 1 + 1, 0, none⟩ (.int .u8 x.lv.f)).setCell ⟨w.heap.size + 1 + 1, 1, none⟩ (.int .u8 t)).setCell ⟨w.heap.size + 1 + 1, 2, none⟩ (.slice x.lv.a x.lv.m x.lv.d)).drew = wf := ⟨_, rfl⟩
      rw [hwf]
      have t1 := blk_far (blk_far (blk_far (blk_set (blk_set R2.out 0 (.slice av nv cv)) 1 (.int .i64 room)) ⟨w.heap.size + 1 + 1, 0, none⟩ (by show w.heap.size + 1 ≠ w.heap.size + 1 + 1; omega) (.int .u8 x.lv.f)) ⟨w.heap.size + 1 + 1, 1, none⟩ (by show w.heap.size + 1 ≠ w.heap.size + 1 + 1; omega) (.int .u8 t)) ⟨w.heap.size + 1 + 1, 2, none⟩ (by show w.heap.size + 1 ≠ w.heap.size + 1 + 1; omega) (.slice x.lv.a x.lv.m x.lv.d)
      have t2 := blk_set (blk_set (blk_set (blk_far (blk_far R3.out ⟨w.heap.size + 1, 0, none⟩ (by show w.heap.size + 1 + 1 ≠ w.heap.size + 1; omega) (.slice av nv cv)) ⟨w.heap.size + 1, 1, none⟩ (by show w.heap.size + 1 + 1 ≠ w.heap.size + 1; omega) (.int .i64 room)) 0 (.int .u8 x.lv.f)) 1 (.int .u8 t)) 2 (.slice x.lv.a x.lv.m x.lv.d)
      have t1' := (drew_heap _ _).trans t1
      have t2' := (drew_heap _ _).trans t2
      rw [hwf] at t1' t2'
      simp at t1' t2'
      have e0 := blk_cell t1' 0
      have e1 := blk_cell t1' 1
      have d0 := blk_cell t2' 0
      have d1 := blk_cell t2' 1
      have d2 := blk_cell t2' 2
      simp at e0 e1 d0 d1 d2
      have hBw : Below w.heap.size w wr := B04.trans (hBr.mono B04.size)
      have hBw5 : Below w.heap.size w w5 := hBw.trans (hB5.mono hBw.size)
      have hBf : Below w.heap.size w wf := by
        rw [← hwf, ← hw6]
        exact ((((((hBw5.setCell (p := ⟨w.heap.size, 0, none⟩) (Nat.le_refl _) _).setCell (p := ⟨w.heap.size + 1, 0, none⟩) (Nat.le_succ _) _).setCell (p := ⟨w.heap.size + 1, 1, none⟩) (Nat.le_succ _) _).setCell (p := ⟨w.heap.size + 1 + 1, 0, none⟩) (by show w.heap.size ≤ w.heap.size + 1 + 1; omega) _).setCell (p := ⟨w.heap.size + 1 + 1, 1, none⟩) (by show w.heap.size ≤ w.heap.size + 1 + 1; omega) _).setCell (p := ⟨w.heap.size + 1 + 1, 2, none⟩) (by show w.heap.size ≤ w.heap.size + 1 + 1; omega) _).drew
      have hU : Upd (fun q => q < w4.heap.size) wr wf := by
        rw [← hwf, ← hw6]
        exact (((((((Upd.of_below hB5 (fun q => q < w4.heap.size)).setCell ⟨w.heap.size, 0, none⟩ _ (fun _ => hw41)).setCell ⟨w.heap.size + 1, 0, none⟩ _ (fun _ => hw42)).setCell ⟨w.heap.size + 1, 1, none⟩ _ (fun _ => hw42)).setCell ⟨w.heap.size + 1 + 1, 0, none⟩ _ (fun _ => hw43)).setCell ⟨w.heap.size + 1 + 1, 1, none⟩ _ (fun _ => hw43)).setCell ⟨w.heap.size + 1 + 1, 2, none⟩ _ (fun _ => hw43)).drew
      have hO := ownsRow_upd HM.out hU (fun q hq e => by have := (HM.out.lt q hq).1; omega)
      have hbr : ∀ y ∈ xs.eraseIdx k, BR wf y.lv.a y.lv.m y.lv.d y.bs := fun y hy => (HRL.out.2.2.2.1 y (List.mem_of_mem_eraseIdx hy)).below hBf
      refine bodyPost_ret (v := .tuple #[.agg #[.slice av nv cv, .int .i64 room], .agg #[.int .u8 x.lv.f, .int .u8 t, .slice x.lv.a x.lv.m x.lv.d], .int .i64 0]) (by simp [results, Try.results27, go_sem, e0, e1, d0, d1, d2]) rfl ⟨av, nv, cv, by rw [HKT.out], ?_, ?_, hBf⟩
      rotate_left
      · intro q hq
        subst hq
        rcases HM.out.2 with ⟨h1, h2⟩ | ⟨g', cap, cur, h1, h3, _⟩
        · cases h1
        · cases h1; exact ⟨Nat.le_trans B04.size h3, Nat.lt_of_lt_of_le (HM.out.lt _ rfl).2 hU.size⟩
      rcases hO.2 with ⟨h1, h2⟩ | ⟨g', cap, cur, h1, _⟩
      · have hnv0 : nv = 0 := HNV.out.trans h2
        have hz : xs.eraseIdx k = [] := List.length_eq_zero_iff.1 h2
        cases h1
        exact ⟨by rw [hz]; rfl, Nat.le_refl _, by decide, hbr, .inl hz⟩
      · cases h1
        refine RL.of_own (base := w4.heap.size) ?_ HNV.out.symm hbr
        rw [← HNV.out] at hO
        exact hO

end Go.Proofs.Ytehgbpepaakanaa
