/-
  party.Acked's closure; slices.IndexFunc with it.
-/
import Derived.Test.YtehgbpepaakanaaDoorTd
namespace Go.Proofs.YtehgbpepaakanaaDoor
open Go.RowKit
set_option linter.unusedVariables false
set_option linter.unusedSimpArgs false
set_option maxRecDepth 20000

attribute [local go_sem] Oper.semAt_some

theorem old44 (q h : Int) (s : ByteArray) (BH : Nat) (w : World) (hh : w.cell? ⟨BH, 0, none⟩ = some (.int .i64 h)) :
    Calls Tryd.prog 44 #[.agg #[.int .i64 q, .string s], .pointer (some ⟨BH, 0, none⟩)] w fun e w' => e = .returned (.bool (decide (q < h))) ∧ Below w.heap.size w w' := by
  obtain ⟨w2, hw2⟩ : ∃ w2, w.alloc (.cells #[.int .i64 q, .string s] 54) = w2 := ⟨_, rfl⟩
  have hB2 : Below w.heap.size w w2 := by rw [← hw2]; exact (Below.refl _ w).alloc (Nat.le_refl _) _
  have hb2 : KB w2 w.heap.size q s := by rw [← hw2]; exact heap_alloc_new w _
  have hlt := World.block_lt_of_cell? w _ hh
  have hh2 : w2.cell? ⟨BH, 0, none⟩ = some (.int .i64 h) := (hB2.cell (p := ⟨BH, 0, none⟩) hlt).trans hh
  obtain ⟨x0, x1, -⟩ := hb2.cells
  have HW2 := Lib.hid hw2
  clear hw2 hb2 hh
  go_enter Tryd.func44, Tryd.ntmps44
  go_upto_region 1 with fail
  rw [HW2.out]
  go_wp2_with fail
  go_ret
  exact ⟨rfl, hB2⟩

set_option maxHeartbeats 1000000 in
/-- The first packet is the first that is old. -/
theorem index_hit (b m d BH : Nat) (h q : Int) (s : ByteArray) (w : World) (hm : 0 < m) (hm2 : m ≤ 100) (h0 : w.cell? ⟨b, 0, none⟩ = some (.int .i64 q)) (h1 : w.cell? ⟨b, 1, none⟩ = some (.string s)) (hq : q < h) (hh : w.cell? ⟨BH, 0, none⟩ = some (.int .i64 h)) :
    Calls Tryd.prog 60 #[.slice (some ⟨b, 0, none⟩) m d, .func (.func 44) #[] #[.pointer (some ⟨BH, 0, none⟩)]] w fun e w' => e = .returned (.int .i64 0) ∧ Below w.heap.size w w' := by
  have HC := Lib.hid (old44 q h s BH w hh)
  have hm' : (0 : Int) < (m : Int) := by omega
  go_enter Tryd.func60, Tryd.ntmps60
  go_wp2_with fail
  go_loopw [8] (fun ix wr => ix = .int .i64 0 ∧ wr = w) (fun _ _ => 1)
  case atStart => exact ⟨rfl, rfl⟩
  case round =>
    obtain ⟨rfl, rfl⟩ := hrel
    go_wp2_with fail
    refine HC.out.mono ?_
    rintro e w1 ⟨rfl, hB1⟩
    have hd : decide (q < h) = true := decide_eq_true hq
    go_wp2_with fail
    go_ret
    exact ⟨rfl, hB1⟩

set_option maxHeartbeats 1000000 in
/-- No packet is old. -/
theorem index_miss (a : Option Addr) (m d BH : Nat) (ps : List Pk) (h : Int) (w : World) (hR : PR w a m d ps) (hm : m ≤ 100) (hq : ∀ (j : Nat) (x : Pk), ps[j]? = some x → h ≤ x.q) (hh : w.cell? ⟨BH, 0, none⟩ = some (.int .i64 h)) :
    Calls Tryd.prog 60 #[.slice a m d, .func (.func 44) #[] #[.pointer (some ⟨BH, 0, none⟩)]] w fun e w' => e = .returned (.int .i64 (-1)) ∧ Below w.heap.size w w' := by
  have hlt := World.block_lt_of_cell? w _ hh
  have HL := Lib.hid hR.len
  have HR := Lib.hid hR
  have HH := Lib.hid hh
  have HQ := Lib.hid hq
  clear hR hh hq
  go_enter Tryd.func60, Tryd.ntmps60
  go_wp2_with fail
  go_loopw [8] (fun ix wr => ∃ j : Nat, j ≤ m ∧ ix = .int .i64 j ∧ Below w.heap.size w wr) (fun ix _ => m - (RowKit.intOf ix).toNat)
  case atStart => exact ⟨0, by omega, rfl, Below.refl _ _⟩
  case round =>
    obtain ⟨j, hj, rfl, hB⟩ := hrel
    by_cases hjm : j < m
    · obtain ⟨x, hx⟩ : ∃ x, ps[j]? = some x := ⟨_, List.getElem?_eq_getElem (by rw [HL.out]; exact hjm)⟩
      rcases (HR.out.below hB) with ⟨_, h, _⟩ | ⟨b, rfl, hlb, hl, hd, hdm, hcc⟩
      · omega
      · obtain ⟨y0, y1⟩ := hcc j x hx
        have hxq := HQ.out j x hx
        have hji : (j : Int) < (m : Int) := by omega
        have HC := Lib.hid (old44 x.q h x.s BH wr ((hB.cell (p := ⟨BH, 0, none⟩) hlt).trans HH.out))
        have hd : decide (x.q < h) = false := decide_eq_false (by omega)
        have HB := Lib.hid hB
        clear hcc hx hB
        go_wp2_with fail
        refine HC.out.mono ?_
        rintro e w1 ⟨rfl, hB1⟩
        have HB1 := Lib.hid (HB.out.trans (hB1.mono HB.out.size))
        clear hB1
        go_wp2_with fail
        go_roundw
        case rel => exact ⟨j + 1, by omega, by go_num, HB1.out⟩
        case measure => simp [RowKit.intOf]; omega
    · obtain rfl : j = m := by omega
      go_wp2_with fail
      go_ret
      exact ⟨rfl, hB⟩
end Go.Proofs.YtehgbpepaakanaaDoor
