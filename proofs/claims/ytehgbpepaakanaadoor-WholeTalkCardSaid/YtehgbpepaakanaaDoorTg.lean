/-
  slices.DeleteFunc of packets: the walk.
-/
import Derived.Test.YtehgbpepaakanaaDoorTf
namespace Go.Proofs.YtehgbpepaakanaaDoor
open Go.RowKit
set_option linter.unusedVariables false
set_option linter.unusedSimpArgs false
set_option maxRecDepth 20000

attribute [local go_sem] Oper.semAt_some

/-- The cells of a row whose packet i is written over. -/
theorem row_store {w : World} {g : Nat} {zs : List Pk} {rest : List Value} (h : w.heap[g]? = some (.cells (cellsOf encPk zs ++ rest).toArray 54 (0, 0))) (i : Nat) (x : Pk) (hi : i < zs.length) :
    ((w.setCell ⟨g, i * 2, none⟩ (.int .i64 x.q)).setCell ⟨g, i * 2 + 1, none⟩ (.string x.s)).heap[g]? = some (.cells (cellsOf encPk (zs.set i x) ++ rest).toArray 54 (0, 0)) := by
  have h2 := blk_set (blk_set h (i * 2) (.int .i64 x.q)) (i * 2 + 1) (.string x.s)
  rw [h2]
  have hl : (cellsOf encPk zs).length = zs.length * 2 := cellsOf_length encPk 2 encPk_len zs
  congr 2
  rw [cellsPk_set]
  simp only [List.setIfInBounds_toArray]
  rw [List.set_append_left _ _ (by omega), List.set_append_left _ _ (by rw [List.length_set]; omega)]
theorem row_cells {w : World} {g : Nat} {zs : List Pk} {rest : List Value} (h : w.heap[g]? = some (.cells (cellsOf encPk zs ++ rest).toArray 54 (0, 0))) (j : Nat) (x : Pk) (hx : zs[j]? = some x) :
    w.cell? ⟨g, j * 2, none⟩ = some (.int .i64 x.q) ∧ w.cell? ⟨g, j * 2 + 1, none⟩ = some (.string x.s) := by
  have hl : (cellsOf encPk zs).length = zs.length * 2 := cellsOf_length encPk 2 encPk_len zs
  have hj : j < zs.length := (List.getElem?_eq_some_iff.1 hx).1
  have e0 := cellsOf_at encPk 2 encPk_len zs j 0 x hx (by decide)
  have e1 := cellsOf_at encPk 2 encPk_len zs j 1 x hx (by decide)
  refine ⟨?_, ?_⟩
  · rw [blk_cell h, List.getElem?_toArray, List.getElem?_append_left (by omega)]
    exact e0
  · rw [blk_cell h, List.getElem?_toArray, List.getElem?_append_left (by omega)]
    exact e1

set_option maxHeartbeats 1600000 in
theorem del_miss (a : Option Addr) (m d BH : Nat) (ps : List Pk) (h : Int) (w : World) (hR : PR w a m d ps) (hm : m ≤ 100) (hq : ∀ (j : Nat) (x : Pk), ps[j]? = some x → h ≤ x.q) (hh : w.cell? ⟨BH, 0, none⟩ = some (.int .i64 h)) :
    Calls Tryd.prog 43 #[.slice a m d, .func (.func 44) #[] #[.pointer (some ⟨BH, 0, none⟩)]] w fun e w' => e = .returned (.slice a m d) ∧ Below w.heap.size w w' := by
  have HC := Lib.hid (index_miss a m d BH ps h w hR hm hq hh)
  clear hR hq hh
  go_enter Tryd.func43, Tryd.ntmps43
  go_wp2_with (go_at_call 60; refine HC.out.mono ?_; rintro e w1 ⟨rfl, hB⟩)
  go_ret
  exact ⟨rfl, hB⟩

set_option maxHeartbeats 1600000 in
theorem del_hit (g m d BH h : Nat) (ps : List Pk) (cur : Array Value) (w : World) (hg : w.heap[g]? = some (.cells cur 54 (0, 0))) (htk : cur.toList.take (m * 2) = cellsOf encPk ps) (hsz : cur.size = d * 2) (hmd : m ≤ d) (hd : d ≤ maxLen) (hl : ps.length = m)
    (hcs : Consec 0 ps) (hh0 : 0 < h) (hhm : h ≤ m) (hm : m ≤ 100) (hne : BH ≠ g) (hh : w.cell? ⟨BH, 0, none⟩ = some (.int .i64 h)) :
    Calls Tryd.prog 43 #[.slice (some ⟨g, 0, none⟩) m d, .func (.func 44) #[] #[.pointer (some ⟨BH, 0, none⟩)]] w fun e w' => e = .returned (.slice (some ⟨g, 0, none⟩) (m - h) d) ∧ PS w' (.slice (some ⟨g, 0, none⟩) (m - h) d) (ps.drop h) ∧ Upd (fun k => k = g) w w' := by
  obtain ⟨rest, hrest⟩ : ∃ rest, rest = cur.toList.drop (m * 2) := ⟨_, rfl⟩
  have hcur : cur = (cellsOf encPk ps ++ rest).toArray := by
    rw [← htk, hrest, List.take_append_drop]
  have hcl : (cellsOf encPk ps).length = m * 2 := by rw [cellsOf_length encPk 2 encPk_len, hl]
  have hrl : rest.length = (d - m) * 2 := by rw [hrest, List.length_drop, Array.length_toList, hsz]; omega
  have hltH := World.block_lt_of_cell? w _ hh
  have hltg := lt_of_heap hg
  rw [hcur] at hg
  obtain ⟨x0, hx0⟩ : ∃ x, ps[0]? = some x := ⟨_, List.getElem?_eq_getElem (by omega)⟩
  obtain ⟨c0, c1⟩ := row_cells hg 0 x0 hx0
  have hq0 := (hcs 0 x0 hx0).1
  have HI := Lib.hid (index_hit g m d BH h x0.q x0.s w (by omega) hm c0 c1 (by rw [hq0]; omega) hh)
  have Hg := Lib.hid hg
  have HH := Lib.hid hh
  have HC := Lib.hid hcs
  have HL := Lib.hid hl
  have HRL := Lib.hid hrl
  have hd' : (d : Int) ≤ 9223372036854775807 := by simp only [maxLen] at hd; omega
  clear hcur hcl hrest hrl hsz htk hq0 c0 c1 hx0 hg hh hcs hl
  go_enter Tryd.func43, Tryd.ntmps43
  go_wp2_with fail
  refine HI.out.mono ?_
  rintro e w1 ⟨rfl, hB1⟩
  have HB1 := Lib.hid hB1
  have HgA := Lib.hid ((hB1.block _ hltg).trans Hg.out)
  have hz1 := hB1.size
  clear hB1 HI
  go_wp2_with fail
  go_loopw [5, 6] (fun iv jv wr => ∃ j : Nat, 1 ≤ j ∧ j ≤ m ∧ jv = .int .i64 j ∧ iv = .int .i64 ((j - h : Nat) : Int) ∧ wr.heap[g]? = some (.cells (cellsOf encPk (rowJ ps h j) ++ rest).toArray 54 (0, 0)) ∧ Upd (fun k => k = g) w wr) (fun _ jv _ => m - (RowKit.intOf jv).toNat)
  case atStart => exact ⟨1, by omega, by omega, rfl, by rw [show 1 - h = 0 by omega]; rfl, by rw [rowJ_old ps h 1 (by omega)]; exact HgA.out, Upd.of_below HB1.out _⟩
  case round =>
    obtain ⟨j, hj1, hj, rfl, rfl, hr, hU⟩ := hrel
    obtain ⟨i, hi⟩ : ∃ i, i = j - h := ⟨_, rfl⟩
    rw [← hi]
    have HIJ := Lib.hid hi
    have hzr := hU.size
    clear hi
    by_cases hjm : j < m
    · obtain ⟨x, hx⟩ : ∃ x, ps[j]? = some x := ⟨_, List.getElem?_eq_getElem (by rw [HL.out]; exact hjm)⟩
      have hx' : (rowJ ps h j)[j]? = some x := by rw [rowJ_at ps h j (by rw [HL.out]; exact hjm)]; exact hx
      obtain ⟨y0, y1⟩ := row_cells hr j x hx'
      have hq : x.q = (j : Int) := by have := (HC.out j x hx).1; omega
      have hji : (j : Int) < (m : Int) := by omega
      obtain ⟨w3, hw3⟩ : ∃ w3, wr.alloc (.cells #[.int .i64 x.q, .string x.s] 54) = w3 := ⟨_, rfl⟩
      have hU3 : Upd (fun _ => False) wr w3 := by rw [← hw3]; exact (Upd.refl _ wr).alloc _
      have hb3 : KB w3 wr.heap.size x.q x.s := by rw [← hw3]; exact heap_alloc_new wr _
      have hr3 := hU3.heap hr (fun h => h)
      have hh3 : w3.cell? ⟨BH, 0, none⟩ = some (.int .i64 h) := by
        have e : w3.heap[BH]? = w.heap[BH]? := (hU3.block _ (by omega) (fun h => h)).trans (hU.block _ hltH hne)
        have := HH.out
        simp only [World.cell?] at this ⊢
        rw [e]; exact this
      have HCl := Lib.hid (old44 x.q h x.s BH w3 hh3)
      have hl3 := lt_of_heap hb3
      have hlr := lt_of_heap hr
      have hU03 : Upd (fun k => k = g) w w3 := hU.trans hU3 (fun _ _ h => h.elim)
      have HQ := Lib.hid hq
      have HX := Lib.hid hx
      have HW3 := Lib.hid hw3
      have Hr3 := Lib.hid hr3
      have Hb3 := Lib.hid hb3
      have HU03 := Lib.hid hU03
      clear hq hx hx' hw3 hr3 hb3 hU3 hU03 hh3 hU hr
      go_upto_region 8 with fail
      rw [HW3.out]
      clear y0 y1
      obtain ⟨y0, y1, -⟩ := Hb3.out.cells
      go_wp2_with fail
      refine HCl.out.mono ?_
      rintro e w4 ⟨rfl, hB4⟩
      have hr4 := (hB4.block _ (lt_of_heap Hr3.out)).trans Hr3.out
      have hb4 : KB w4 wr.heap.size x.q x.s := (hB4.block _ hl3).trans Hb3.out
      have hU4 : Upd (fun k => k = g) w w4 := HU03.out.trans (Upd.of_below hB4 (fun _ => False)) (fun _ _ h => h.elim)
      clear y0 y1
      by_cases hjh : j < h
      · have hdq : decide (x.q < (h : Int)) = true := decide_eq_true (by rw [HQ.out]; omega)
        have Hr4 := Lib.hid hr4
        have HU4 := Lib.hid hU4
        clear hr4 hb4 hU4 hB4
        go_wp2_with fail
        go_roundw
        case rel => exact ⟨j + 1, by omega, by omega, by go_num, congrArg (fun k : Nat => Value.int .i64 (k : Int)) (by have := HIJ.out; omega), by rw [rowJ_old ps h (j + 1) (by omega)]; rw [rowJ_old ps h j (by omega)] at Hr4; exact Hr4.out, HU4.out⟩
        case measure => simp [RowKit.intOf]; omega
      · have hdq : decide (x.q < (h : Int)) = false := decide_eq_false (by rw [HQ.out]; omega)
        obtain ⟨y0, y1, -⟩ := hb4.cells
        have him : (i : Int) < (m : Int) := by have := HIJ.out; omega
        have hi0 : (0 : Int) ≤ (i : Int) := by omega
        have hfz0 := blk_frozen hr4 (i * 2)
        have hfz1 := blk_frozen hr4 (i * 2 + 1)
        have hrl : (rowJ ps h j).length = m := by rw [rowJ_len ps h j (by rw [HL.out]; exact hj), HL.out]
        have hcl4 : (cellsOf encPk (rowJ ps h j)).length = m * 2 := by rw [cellsOf_length encPk 2 encPk_len, hrl]
        obtain ⟨z, hz⟩ : ∃ z, (rowJ ps h j)[i]? = some z := ⟨_, List.getElem?_eq_getElem (by omega)⟩
        obtain ⟨v0, v1⟩ := row_cells hr4 i z hz
        have hr5 := row_store hr4 i x (by rw [hrl]; omega)
        rw [HIJ.out, ← rowJ_keep ps h j x HX.out (by omega), ← HIJ.out] at hr5
        have hU5 : Upd (fun k => k = g) w ((w4.setCell ⟨g, i * 2, none⟩ (.int .i64 x.q)).setCell ⟨g, i * 2 + 1, none⟩ (.string x.s)) := (hU4.setCell ⟨g, i * 2, none⟩ _ (fun _ => rfl)).setCell ⟨g, i * 2 + 1, none⟩ _ (fun _ => rfl)
        have HE := Lib.hid (And.intro hr5 hU5)
        clear hr4 hb4 hU4 hB4 hz hr5 hU5 hrl hcl4
        go_wp2_with fail
        go_roundw
        case rel => exact ⟨j + 1, by omega, by omega, by go_num, by rw [show j + 1 - h = i + 1 by have := HIJ.out; omega]; go_num, HE.out.1, HE.out.2⟩
        case measure => simp [RowKit.intOf]; omega
    · obtain rfl : j = m := by omega
      have hi := HIJ.out
      have hid : (i : Int) < (d : Int) := by omega
      have hij : (i : Int) ≤ (j : Int) := by omega
      have hnd : ¬ d = i := by omega
      have hcl4 : (cellsOf encPk (rowJ ps h j)).length = j * 2 := by rw [cellsOf_length encPk 2 encPk_len, rowJ_len ps h j (by rw [HL.out]; exact Nat.le_refl _), HL.out]
      obtain ⟨hzl, hzo⟩ := zeroPk (j - i)
      obtain ⟨cur2, hclr, hL, hT⟩ : ∃ cur2 : Array Value, (∀ ty c, (Builtin.clear_ #[46] ty #[.slice (some ⟨g, i * 2, none⟩) (j - i) c]).run Tryd.prog wr = .ok (.tuple #[]) (wr.setRow g cur2)) ∧ cur2.size = d * 2 ∧ cur2.toList.take (i * 2) = cellsOf encPk (ps.drop h) := by
        refine ⟨_, fun ty c => run_clear_any wr 46 54 ty (.agg #[.int .i64 0, .string ⟨#[]⟩]) _ (j - i) rfl Tryd.underlying46 Tryd.zeroPk hzo g (i * 2) c _ hr ?_ (by omega), ?_, ?_⟩
        · rw [hzl, List.size_toArray, List.length_append, hcl4, HRL.out]; omega
        · rw [List.size_toArray, List.length_append, List.length_append, List.length_take, List.length_drop, hzl, List.toList_toArray, List.length_append, hcl4, HRL.out]; omega
        · rw [List.toList_toArray, List.toList_toArray, List.append_assoc, List.take_append_of_le_length (by rw [List.length_take, List.length_append, hcl4]; omega), List.take_take, Nat.min_self,
            List.take_append_of_le_length (by rw [hcl4]; omega), cellsOf_take encPk 2 encPk_len, hi]
          have := rowJ_end ps h (by rw [HL.out]; exact hhm)
          rw [HL.out] at this
          rw [this]
      have hUz := upd_setRow hU g cur2 (fun _ => rfl)
      have hgz : (wr.setRow g cur2).heap[g]? = some (.cells cur2 54 (0, 0)) := setRow_heap wr g _ _ 54 _ hr
      have HE := Lib.hid (And.intro hUz (And.intro hgz (And.intro hL hT)))
      have Hd := Lib.hid hd
      clear hUz hgz hL hT hr hU hcl4 hzl hzo hd hi
      go_wp2_with fail
      go_ret
      have hi := HIJ.out
      obtain ⟨h1, h2, h3, h4⟩ := HE.out
      refine ⟨by rw [hi]; rfl, ?_, h1⟩
      have hlen : (ps.drop h).length = j - h := by rw [List.length_drop, HL.out]
      rw [PS, hlen]
      refine ⟨by rw [cellsOf_length encPk 2 encPk_len, hlen], .inr ⟨g, d, cur2, rfl, Nat.zero_le _, h2, by omega, Hd.out, h3, by rw [← hi]; exact h4⟩⟩
end Go.Proofs.YtehgbpepaakanaaDoor
