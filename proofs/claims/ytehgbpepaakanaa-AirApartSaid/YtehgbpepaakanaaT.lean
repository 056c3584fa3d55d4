/-
  The reference of air: Send, where there is room.
-/
import Derived.Test.YtehgbpepaakanaaQ
import Derived.Lib.SmallJoins
namespace Go.Proofs.Ytehgbpepaakanaa
open Go.RowKit Go.Joins
set_option linter.unusedVariables false
set_option linter.unusedSimpArgs false

/-- The row is a block that was made between w and w'. -/
def Fresh (w w' : World) (a : Option Addr) : Prop := ∀ p, a = some p → w.heap.size ≤ p.block ∧ p.block < w'.heap.size

theorem RL.of_own {w : World} {base g n c : Nat} {xs : List LX} (h : w.ownsRow base 48 3 (.slice (some ⟨g, 0, none⟩) n c) n (cellsOf enc3 (xs.map LX.lv))) (hn : xs.length = n) (hb : ∀ x ∈ xs, BR w x.lv.a x.lv.m x.lv.d x.bs) : RL w (some ⟨g, 0, none⟩) n c xs := by
  rcases h.2 with ⟨h0, _⟩ | ⟨g', cap, cur, hv, hbase, hcur, hnc, hcm, hsz, htake⟩
  · simp at h0
  · simp only [Value.slice.injEq, Option.some.injEq, Addr.mk.injEq, and_true, true_and] at hv
    obtain ⟨rfl, rfl⟩ := hv
    have key : ∀ (j : Nat) (x : LX), xs[j]? = some x → ∀ i, i < 3 → w.cell? ⟨g, j * 3 + i, none⟩ = (enc3 x.lv)[i]? := by
      intro j x hx i hi
      have hj : j < xs.length := (List.getElem?_eq_some_iff.1 hx).1
      have := cellsOf_at enc3 3 enc3_len (xs.map LX.lv) j i x.lv (by rw [List.getElem?_map, hx]; rfl) hi
      rw [← this, blk_cell hcur, ← htake, List.getElem?_take, if_pos (by omega)]
      simp
    refine ⟨hn, hnc, by simp only [maxLen] at hcm; omega, hb, .inr ⟨g, 0, rfl, lt_of_heap hcur, fun j x hx => ?_⟩⟩
    rw [Nat.zero_add]
    exact ⟨key j x hx 0 (by decide), key j x hx 1 (by decide), key j x hx 2 (by decide)⟩

set_option maxHeartbeats 1000000 in
theorem refSend_ok (room f t : Int) (a : Option Addr) (m d : Nat) (w : World) (h : f < 17) (h' : t < 17) (hm : m ≤ 4000) (al : Option Addr) (nl cl : Nat) (xs : List LX) (hR : RL w al nl cl xs) (hroom : ((toEnd t xs).length : Int) < room) (bs : List Int) (hbs : BR w a m d bs) (hcap : nl ≤ 10000) :
    Calls Try.prog 30 #[.agg #[.slice al nl cl, .int .i64 room], .agg #[.int .u8 f, .int .u8 t, .slice a m d]] w fun e w' => ∃ a' cap', e = .returned (.tuple #[.agg #[.slice a' (nl + 1) cap', .int .i64 room], .int .i64 0]) ∧ RL w' a' (nl + 1) cap' (xs ++ [⟨⟨f, t, a, m, d⟩, bs⟩]) ∧ Fresh w w' a' ∧ Below w.heap.size w w' := by
  obtain ⟨i0, hi0, hz0', hz1, hz2⟩ := info_parts Try.infoL3
  have HRL := Lib.hid hR
  have HBS := Lib.hid hbs
  clear hbs
  obtain ⟨w1, w2, hw1, hw2, hs, hs2, hb1, hb2, hB⟩ := air_let_box (.slice al nl cl) room f t a m d w
  obtain ⟨w3, hw3⟩ : ∃ w3, w2.alloc (.cells #[.slice none 0 0, .int .i64 0] 38) = w3 := ⟨_, rfl⟩
  have e3 : w3.heap[w2.heap.size]? = some (.cells #[.slice none 0 0, .int .i64 0] 38 (0, 0)) := by rw [← hw3]; exact heap_alloc_new w2 _
  have hB3 : Below w2.heap.size w2 w3 := by rw [← hw3]; exact (Below.refl _ w2).alloc (Nat.le_refl _) _
  rw [← hw1] at hw2
  rw [← hw2] at hw3
  have HW := Lib.hid hw3
  have hlt := lt_of_heap hb1
  have hlt2 := lt_of_heap hb2
  have hb13 := (hB3.block _ hlt).trans hb1
  have hb23 := (hB3.block _ hlt2).trans hb2
  have hB03 := hB.trans (hB3.mono hB.size)
  rw [hs2] at e3
  have HD : Hid (∀ w', Upd (fun _ => False) w3 w' → Below w3.heap.size w3 w' → Calls Try.prog 16 #[.agg #[.slice al nl cl, .int .i64 room], .int .u8 t] w' fun e w4 => e = .returned (.int .i64 ((toEnd t xs).length : Nat)) ∧ Below w.heap.size w w4 ∧
      w4.heap[w.heap.size]? = some (.cells #[.slice al nl cl, .int .i64 room] 38 (0, 0)) ∧ w4.heap[w.heap.size + 1]? = some (.cells #[.int .u8 f, .int .u8 t, .slice a m d] 48 (0, 0)) ∧ w4.heap[w.heap.size + 1 + 1]? = some (.cells #[.slice none 0 0, .int .i64 0] 38 (0, 0))) := by
    intro w' hu hb
    refine (refLen al nl cl xs room t w' ((hR.below hB03).below hb)).mono ?_
    rintro e w4 ⟨rfl, hB4⟩
    have hb4 := hb.trans (hB4.mono hb.size)
    exact ⟨rfl, hB03.trans (hb4.mono hB03.size), (hb4.block _ (lt_of_heap hb13)).trans hb13, (hb4.block _ (lt_of_heap hb23)).trans hb23, (hb4.block _ (lt_of_heap e3)).trans e3⟩
  have x0 := blk_cell hb13 0
  have x1 := blk_cell hb13 1
  have y1 := blk_cell hb23 1
  simp at x0 x1 y1
  have h1 : ¬ 17 ≤ f := by omega
  have h2 : ¬ 17 ≤ t := by omega
  have hmi : ¬ (4000 : Int) < (m : Int) := by omega
  clear hw1 hw2 hw3 hb1 hb2 hs hs2 e3 hb13 hb23 hR hB3 hB
  go_enter Try.func30, Try.ntmps30
  go_upto_region 5 with fail
  rw [HW.out]
  go_region_held3 (fun w' => w'.cell? ⟨w.heap.size, 0, none⟩ = some (.slice al nl cl) ∧ w'.cell? ⟨w.heap.size, 1, none⟩ = some (.int .i64 room) ∧ w'.cell? ⟨w.heap.size + 1, 1, none⟩ = some (.int .u8 t))
    (first | (simp [*]; done) | go_keep)
    (first | (go_at_call 16; refine (HD.out _ ((Upd.refl _ _).drew) ((Below.refl _ _).drew)).mono ?_; rintro e w4 ⟨rfl, hB4, hb14, hb24, hb34⟩; have u0 := blk_cell hb14 0; have u1 := blk_cell hb14 1; have v1 := blk_cell hb24 1; simp at u0 u1 v1; have HB1 := Lib.hid hb14; have HB2 := Lib.hid hb24; have HB3 := Lib.hid hb34; clear hb14 hb24 hb34))
  have hl41 := lt_of_heap HB1.out
  have hl42 := lt_of_heap HB2.out
  have hl43 := lt_of_heap HB3.out
  have hnl : xs.length = nl := HRL.out.1
  have hR4 := Lib.hid (HRL.out.below hB4)
  cases al with
  | none =>
    have hx0 : xs = [] := by
      rcases HRL.out.2.2.2.2 with h | ⟨b, off, e, _⟩
      · exact h
      · cases e
    subst hx0
    obtain rfl : nl = 0 := by simpa using hnl.symm
    have hpu : ∀ w', Sem.run Try.prog (pure (#[] : Array Value)) w' = .ok #[] w' := fun _ => rfl
    have hst : ∀ p w', (storeCells p []).run Try.prog w' = .ok () w' := fun _ _ => rfl
    obtain ⟨w6, hw6⟩ : ∃ w6, w4.alloc (.cells #[] 48) = w6 := ⟨_, rfl⟩
    obtain ⟨v', hv'⟩ : ∃ v', v' = Value.slice (some ⟨w4.heap.size, 0, none⟩) 0 0 := ⟨_, rfl⟩
    have hB46 : Below w4.heap.size w4 w6 := by rw [← hw6]; exact (Below.refl _ w4).alloc (Nat.le_refl _) _
    have hown' : w6.ownsRow w4.heap.size 48 3 v' 0 (cellsOf enc3 (([] : List LX).map LX.lv)) := by
      rw [← hw6, hv']
      exact World.ownsRow_made w4 #[] 0 (Nat.le_refl _) (Nat.zero_le _) rfl
    have HO := Lib.hid hown'
    have b1 := (hB46.block _ hl41).trans HB1.out
    have b2 := (hB46.block _ hl42).trans HB2.out
    have b3 := (hB46.block _ hl43).trans HB3.out
    have u0 := blk_cell b2 0
    have u1 := blk_cell b2 1
    have u2 := blk_cell b2 2
    simp at u0 u1 u2
    have l61 := lt_of_heap b1
    have l62 := lt_of_heap b2
    have l63 := lt_of_heap b3
    have C1 := Lib.hid b1
    have C3 := Lib.hid b3
    have t0 := blk_cell b1 0
    simp at t0
    clear hown' b1 b2 b3 hl41 hl42 hl43
    subst hv'
    go_wp2_with (at_builtin; refine wpList_append_own _ rfl _ _ 36 rfl w4.heap.size 48 i0 (.agg #[.int .u8 0, .int .u8 0, .slice none 0 0]) 3 32 Try.underlying36 hi0 hz0' hz1 hz2 rfl (by decide) _ _ _ rfl (HO.out.alloc _) ⟨w6.heap.size, 0, none⟩ 1 1 [.int .u8 f, .int .u8 t, .slice a m d] rfl ?qd1 ?qd2 ?qd3 ?qd4 ?qd5 ?qd6 ?_)
    case qd1 => rfl
    case qd2 => exact news_new w6 _ _
    case qd3 => intro u hu; simp at hu; rcases hu with rfl | rfl | rfl <;> rfl
    case qd4 => unfold maxLen; omega
    case qd5 => omega
    case qd6 => have := hB46.size; simp; omega
    intro v7 w7 hown7 hgrow7 hnil7
    have hB47 : Below w4.heap.size w4 w7 := (hB46.alloc hB46.size _).grown hgrow7 (by have := hB46.size; simp; omega) (fun k hk => (HO.out.lt k hk).1)
    obtain ⟨g7, c7, rfl⟩ := ownsRow_form hown7 (by omega)
    have hg7 : w4.heap.size ≤ g7 := (hown7.lt g7 rfl).1
    have hB07 := hB4.trans (hB47.mono hB4.size)
    have HO7 := Lib.hid hown7
    have hm1 := HB1.out
    have hm3 := HB3.out
    have b1 := (hB47.block _ (lt_of_heap hm1)).trans hm1
    have b3 := (hB47.block _ (lt_of_heap hm3)).trans hm3
    have s1 := blk_set b1 0 (.slice (some ⟨g7, 0, none⟩) 1 c7)
    simp at s1
    have p0 := blk_cell b1 0
    have p1 := blk_cell b1 1
    have q0 := blk_frozen b1 0
    have z0 := blk_cell b3 0
    have z1 := blk_cell b3 1
    have y0 := blk_frozen b3 0
    have y1 := blk_frozen b3 1
    simp at p0 p1 z0 z1
    have B3 := Lib.hid b3
    clear hown7 hgrow7 hnil7 b1 b3 u0 u1 u2 hm1 hm3 s1 C1 C3 l61 l62 l63
    go_wp2_with fail
    have hw4 : w.heap.size + 1 + 1 < w4.heap.size := lt_of_heap HB3.out
    have s3 := blk_set (blk_set (blk_far B3.out ⟨w.heap.size, 0, none⟩ (by show w.heap.size + 1 + 1 ≠ w.heap.size; omega) (.slice (some ⟨g7, 0, none⟩) 1 c7)) 0 (.slice (some ⟨g7, 0, none⟩) 1 c7)) 1 (.int .i64 room)
    simp at s3
    have e0 := blk_cell s3 0
    have e1 := blk_cell s3 1
    simp at e0 e1
    have hu : Upd (fun k => k < w4.heap.size) w7 (((w7.setCell ⟨w.heap.size, 0, none⟩ (.slice (some ⟨g7, 0, none⟩) 1 c7)).setCell ⟨w.heap.size + 1 + 1, 0, none⟩ (.slice (some ⟨g7, 0, none⟩) 1 c7)).setCell ⟨w.heap.size + 1 + 1, 1, none⟩ (.int .i64 room)) :=
      (((Upd.refl (fun k => k < w4.heap.size) w7).setCell ⟨w.heap.size, 0, none⟩ _ (fun _ => by show w.heap.size < w4.heap.size; omega)).setCell ⟨w.heap.size + 1 + 1, 0, none⟩ _ (fun _ => hw4)).setCell ⟨w.heap.size + 1 + 1, 1, none⟩ _ (fun _ => hw4)
    have hBf : Below w.heap.size w (((w7.setCell ⟨w.heap.size, 0, none⟩ (.slice (some ⟨g7, 0, none⟩) 1 c7)).setCell ⟨w.heap.size + 1 + 1, 0, none⟩ (.slice (some ⟨g7, 0, none⟩) 1 c7)).setCell ⟨w.heap.size + 1 + 1, 1, none⟩ (.int .i64 room)) :=
      ((hB07.setCell (p := ⟨w.heap.size, 0, none⟩) (Nat.le_refl _) _).setCell (p := ⟨w.heap.size + 1 + 1, 0, none⟩) (by show w.heap.size ≤ w.heap.size + 1 + 1; omega) _).setCell (p := ⟨w.heap.size + 1 + 1, 1, none⟩) (by show w.heap.size ≤ w.heap.size + 1 + 1; omega) _
    refine bodyPost_ret (v := .tuple #[.agg #[.slice (some ⟨g7, 0, none⟩) 1 c7, .int .i64 room], .int .i64 0]) (by simp [results, Try.results30, go_sem, e0, e1]) rfl ⟨_, c7, rfl, RL.of_own (base := w4.heap.size) ?_ (by simp [hnl]) ?_, fun p hp => by cases hp; exact ⟨Nat.le_trans hB4.size hg7, Nat.lt_of_lt_of_le (HO7.out.lt g7 rfl).2 hu.size⟩, hBf⟩
    · have h7 := ownsRow_upd HO7.out hu (fun k hk e => by have := (HO7.out.lt k hk).1; omega)
      simpa [cellsOf, enc3] using h7
    · intro y hy
      rcases List.mem_append.1 hy with hy | hy
      · exact (HRL.out.2.2.2.1 y hy).below hBf
      · obtain rfl := List.mem_singleton.1 hy
        exact HBS.out.below hBf
  | some x =>
    have hcells : Hid (∀ j u, (cellsOf enc3 (xs.map LX.lv))[j]? = some u → w4.cell? (x.add j) = some u) := by
      rcases hR4.out.2.2.2.2 with rfl | ⟨b, off, e, hlt, hc⟩
      · intro j u hj; simp [cellsOf] at hj
      · cases e
        intro j u hj
        have hjl : j < nl * 3 := by have := (List.getElem?_eq_some_iff.1 hj).1; rw [cellsOf_length enc3 3 enc3_len, List.length_map, hnl] at this; exact this
        obtain ⟨y, hy⟩ : ∃ y, xs[j / 3]? = some y := ⟨_, List.getElem?_eq_getElem (by omega)⟩
        have h3 := cellsOf_at enc3 3 enc3_len (xs.map LX.lv) (j / 3) (j % 3) y.lv (by rw [List.getElem?_map, hy]; rfl) (by omega)
        rw [show j / 3 * 3 + j % 3 = j by omega] at h3
        rw [h3] at hj
        obtain ⟨c0, c1, c2⟩ := hc (j / 3) y hy
        rw [Addr.add_lit]
        rcases (show j % 3 = 0 ∨ j % 3 = 1 ∨ j % 3 = 2 by omega) with e | e | e
        · rw [e] at hj; simp [enc3] at hj; subst hj; rw [show off + j = off + j / 3 * 3 by omega]; exact c0
        · rw [e] at hj; simp [enc3] at hj; subst hj; rw [show off + j = off + j / 3 * 3 + 1 by omega]; exact c1
        · rw [e] at hj; simp [enc3] at hj; subst hj; rw [show off + j = off + j / 3 * 3 + 2 by omega]; exact c2
    have HL : Hid ((cellsOf enc3 (xs.map LX.lv)).length = nl * 3) := by rw [Hid, cellsOf_length enc3 3 enc3_len, List.length_map, hnl]
    have H1 : Hid (∀ u ∈ cellsOf enc3 (xs.map LX.lv), u.oneCell' = true) := enc3_one _
    clear u0 u1 v1
    go_wp2_with (at_builtin; refine wpList_append_own _ rfl _ _ 36 rfl w4.heap.size 48 i0 (.agg #[.int .u8 0, .int .u8 0, .slice none 0 0]) 3 32 Try.underlying36 hi0 hz0' hz1 hz2 rfl (by decide) _ _ _ rfl (World.ownsRow_made w4 #[] 0 (Nat.le_refl _) (Nat.zero_le _) rfl) x nl cl (cellsOf enc3 (xs.map LX.lv)) rfl ?qc1 ?qc2 ?qc3 ?qc4 ?qc5 ?qc6 ?_)
    case qc1 => exact HL.out
    case qc2 => intro j u hj; exact Lib.cell?_alloc_some _ (hcells.out j u hj)
    case qc3 => exact H1.out
    case qc4 => unfold maxLen; omega
    case qc5 => omega
    case qc6 => simp
    intro v' w6 hown hgrow hnil
    have hB46 : Below w4.heap.size w4 w6 := ((Below.refl _ w4).alloc (Nat.le_refl _) _).grown hgrow (by simp) (by intro k hk; simp [Value.ownBlock] at hk; omega)
    have hown' : w6.ownsRow w4.heap.size 48 3 v' nl (cellsOf enc3 (xs.map LX.lv)) := by simpa using hown
    have HO := Lib.hid hown'
    have b1 := (hB46.block _ hl41).trans HB1.out
    have b2 := (hB46.block _ hl42).trans HB2.out
    have b3 := (hB46.block _ hl43).trans HB3.out
    have u0 := blk_cell b2 0
    have u1 := blk_cell b2 1
    have u2 := blk_cell b2 2
    simp at u0 u1 u2
    have l61 := lt_of_heap b1
    have l62 := lt_of_heap b2
    have l63 := lt_of_heap b3
    have C1 := Lib.hid b1
    have C3 := Lib.hid b3
    clear hown hown' hgrow hnil b1 b2 b3 hcells HL H1 hl41 hl42 hl43
    go_wp2_with (at_builtin; refine wpList_append_own _ rfl _ _ 36 rfl w4.heap.size 48 i0 (.agg #[.int .u8 0, .int .u8 0, .slice none 0 0]) 3 32 Try.underlying36 hi0 hz0' hz1 hz2 rfl (by decide) _ _ _ rfl (HO.out.alloc _) ⟨w6.heap.size, 0, none⟩ 1 1 [.int .u8 f, .int .u8 t, .slice a m d] rfl ?qd1 ?qd2 ?qd3 ?qd4 ?qd5 ?qd6 ?_)
    case qd1 => rfl
    case qd2 => exact news_new w6 _ _
    case qd3 => intro u hu; simp at hu; rcases hu with rfl | rfl | rfl <;> rfl
    case qd4 => unfold maxLen; omega
    case qd5 => omega
    case qd6 => have := hB46.size; simp; omega
    intro v7 w7 hown7 hgrow7 hnil7
    have hB47 : Below w4.heap.size w4 w7 := (hB46.alloc hB46.size _).grown hgrow7 (by have := hB46.size; simp; omega) (fun k hk => (HO.out.lt k hk).1)
    obtain ⟨g7, c7, rfl⟩ := ownsRow_form hown7 (by omega)
    have hg7 : w4.heap.size ≤ g7 := (hown7.lt g7 rfl).1
    have hB07 := hB4.trans (hB47.mono hB4.size)
    have HO7 := Lib.hid hown7
    have hm1 := HB1.out
    have hm3 := HB3.out
    have b1 := (hB47.block _ (lt_of_heap hm1)).trans hm1
    have b3 := (hB47.block _ (lt_of_heap hm3)).trans hm3
    have s1 := blk_set b1 0 (.slice (some ⟨g7, 0, none⟩) (nl + 1) c7)
    simp at s1
    have p0 := blk_cell b1 0
    have p1 := blk_cell b1 1
    have q0 := blk_frozen b1 0
    have z0 := blk_cell b3 0
    have z1 := blk_cell b3 1
    have y0 := blk_frozen b3 0
    have y1 := blk_frozen b3 1
    simp at p0 p1 z0 z1
    have B3 := Lib.hid b3
    clear hown7 hgrow7 hnil7 b1 b3 u0 u1 u2 hm1 hm3 s1 C1 C3 l61 l62 l63
    go_wp2_with fail
    have hw4 : w.heap.size + 1 + 1 < w4.heap.size := lt_of_heap HB3.out
    have s3 := blk_set (blk_set (blk_far B3.out ⟨w.heap.size, 0, none⟩ (by show w.heap.size + 1 + 1 ≠ w.heap.size; omega) (.slice (some ⟨g7, 0, none⟩) (nl + 1) c7)) 0 (.slice (some ⟨g7, 0, none⟩) (nl + 1) c7)) 1 (.int .i64 room)
    simp at s3
    have e0 := blk_cell s3 0
    have e1 := blk_cell s3 1
    simp at e0 e1
    have hu : Upd (fun k => k < w4.heap.size) w7 (((w7.setCell ⟨w.heap.size, 0, none⟩ (.slice (some ⟨g7, 0, none⟩) (nl + 1) c7)).setCell ⟨w.heap.size + 1 + 1, 0, none⟩ (.slice (some ⟨g7, 0, none⟩) (nl + 1) c7)).setCell ⟨w.heap.size + 1 + 1, 1, none⟩ (.int .i64 room)) :=
      (((Upd.refl (fun k => k < w4.heap.size) w7).setCell ⟨w.heap.size, 0, none⟩ _ (fun _ => by show w.heap.size < w4.heap.size; omega)).setCell ⟨w.heap.size + 1 + 1, 0, none⟩ _ (fun _ => hw4)).setCell ⟨w.heap.size + 1 + 1, 1, none⟩ _ (fun _ => hw4)
    have hBf : Below w.heap.size w (((w7.setCell ⟨w.heap.size, 0, none⟩ (.slice (some ⟨g7, 0, none⟩) (nl + 1) c7)).setCell ⟨w.heap.size + 1 + 1, 0, none⟩ (.slice (some ⟨g7, 0, none⟩) (nl + 1) c7)).setCell ⟨w.heap.size + 1 + 1, 1, none⟩ (.int .i64 room)) :=
      ((hB07.setCell (p := ⟨w.heap.size, 0, none⟩) (Nat.le_refl _) _).setCell (p := ⟨w.heap.size + 1 + 1, 0, none⟩) (by show w.heap.size ≤ w.heap.size + 1 + 1; omega) _).setCell (p := ⟨w.heap.size + 1 + 1, 1, none⟩) (by show w.heap.size ≤ w.heap.size + 1 + 1; omega) _
    refine bodyPost_ret (v := .tuple #[.agg #[.slice (some ⟨g7, 0, none⟩) (nl + 1) c7, .int .i64 room], .int .i64 0]) (by simp [results, Try.results30, go_sem, e0, e1]) rfl ⟨_, c7, rfl, RL.of_own (base := w4.heap.size) ?_ (by simp [hnl]) ?_, fun p hp => by cases hp; exact ⟨Nat.le_trans hB4.size hg7, Nat.lt_of_lt_of_le (HO7.out.lt g7 rfl).2 hu.size⟩, hBf⟩
    · have h7 := ownsRow_upd HO7.out hu (fun k hk e => by have := (HO7.out.lt k hk).1; omega)
      simpa [cellsOf, enc3] using h7
    · intro y hy
      rcases List.mem_append.1 hy with hy | hy
      · exact (HRL.out.2.2.2.1 y hy).below hBf
      · obtain rfl := List.mem_singleton.1 hy
        exact HBS.out.below hBf

end Go.Proofs.Ytehgbpepaakanaa
