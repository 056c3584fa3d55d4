/-
  Air: AirNobody.
-/
import Derived.Test.YtehgbpepaakanaaJ
namespace Go.Proofs.Ytehgbpepaakanaa
open Go.RowKit
set_option linter.unusedVariables false
set_option linter.unusedSimpArgs false

def nones : Array Value := #[.pointer none, .pointer none, .pointer none, .pointer none, .pointer none, .pointer none, .pointer none, .pointer none, .pointer none, .pointer none, .pointer none, .pointer none, .pointer none, .pointer none, .pointer none, .pointer none, .pointer none]

set_option maxHeartbeats 1000000 in
theorem nobody_true (q k : Int) (w : World) : Calls Try.prog 7 #[.int .u8 q, .int .i64 k] w fun e w' => e = .returned (.bool true) ∧ Below w.heap.size w w' := by
  go_enter Try.func7, Try.ntmps7
  go_wp2_with fail
  refine (alive_is _).mono ?_
  rintro e w1 ⟨rfl, hB1⟩
  obtain ⟨w2, hw2⟩ : ∃ w2, (w1.alloc (.cells nones 56)).alloc (.cells #[.pointer none, .pointer (some ⟨w1.heap.size, 0, none⟩)] 24) = w2 := ⟨_, rfl⟩
  have g1 : w2.heap[w1.heap.size]? = some (.cells nones 56 (0, 0)) := by rw [← hw2]; exact blk_alloc (heap_alloc_new w1 _) _
  have g2 : w2.heap[w1.heap.size + 1]? = some (.cells #[.pointer none, .pointer (some ⟨w1.heap.size, 0, none⟩)] 24 (0, 0)) := by
    rw [← hw2]
    have := heap_alloc_new (w1.alloc (.cells nones 56)) (.cells #[.pointer none, .pointer (some ⟨w1.heap.size, 0, none⟩)] 24)
    rwa [World.size_alloc] at this
  have hB2 : Below w.heap.size w w2 := by rw [← hw2]; exact (hB1.alloc hB1.size _).alloc (by rw [World.size_alloc]; have := hB1.size; omega) _
  rw [show nones = #[.pointer none, .pointer none, .pointer none, .pointer none, .pointer none, .pointer none, .pointer none, .pointer none, .pointer none, .pointer none, .pointer none, .pointer none, .pointer none, .pointer none, .pointer none, .pointer none, .pointer none] from rfl] at hw2
  have HW := Lib.hid hw2
  clear hw2
  have G1 := Lib.hid g1
  have G2 := Lib.hid g2
  clear g1 g2
  go_upto_region 4 with fail
  rw [HW.out]
  go_loopw [15] (fun ix wr => ∃ i : Nat, i ≤ 2 ∧ ix = .int .i64 i ∧ wr.heap[w1.heap.size]? = some (.cells nones 56 (0, 0)) ∧ wr.heap[w1.heap.size + 1]? = some (.cells #[.pointer none, .pointer (some ⟨w1.heap.size, 0, none⟩)] 24 (0, 0)) ∧ Below w.heap.size w wr) (fun ix _ => 2 - (intOf ix).toNat)
  case atStart => exact ⟨0, by omega, rfl, G1.out, G2.out, hB2⟩
  case round =>
    obtain ⟨i, hi, rfl, h1, h2, hB⟩ := hrel
    by_cases hlt : i < 2
    · obtain ⟨p, hp, hbad⟩ : ∃ p, wr.cell? ⟨w1.heap.size + 1, i, none⟩ = some (.pointer p) ∧ ABad wr p := by
        rw [blk_cell h2]
        rcases (show i = 0 ∨ i = 1 by omega) with rfl | rfl
        · exact ⟨none, rfl, .inl rfl⟩
        · exact ⟨_, rfl, .inr ⟨_, rfl, by rw [blk_cell h1]; rfl⟩⟩
      have hii : (i : Int) < 2 := by omega
      have l1 := lt_of_heap h1
      have l2 := lt_of_heap h2
      have H1 := Lib.hid h1
      have H2 := Lib.hid h2
      clear h1 h2
      go_wp2_with fail
      refine (take_err p _ _ 1 wr (by decide) (fun w1 hb => lookErr_bad _ _ _ _ (hbad.below hb))).mono ?_
      rintro e wa ⟨rfl, hBa⟩
      obtain ⟨wb, hwb, hbb, hBb⟩ := let_box 0 0 none 0 0 wa
      have HB := hBa.trans (hBb.mono hBa.size)
      have x2 := blk_cell hbb 2
      simp at x2
      have HWb := Lib.hid hwb
      clear hwb
      go_upto_region 7 with fail
      rw [HWb.out]
      go_wp2_with fail
      have hlb := lt_of_heap hbb
      have hbad2 := hbad.below HB
      refine (send_bad p _ _ _ _ _ wb hbad2).mono ?_
      rintro e wc ⟨rfl, hBc⟩
      have y2 := (hBc.cell (p := ⟨wa.heap.size, 2, none⟩) hlb).trans x2
      have hbad3 := hbad2.below hBc
      clear x2
      go_wp2_with fail
      refine (again_err p _ _ 1 wc (by decide) (lookErr_bad _ _ _ _ hbad3)).mono ?_
      rintro e wd ⟨rfl, hBd⟩
      have hbad4 := hbad3.below hBd
      clear y2
      go_wp2_with fail
      refine (turn_err p _ _ 1 _ _ wd (by decide) (lookErr_bad _ _ _ _ hbad4)).mono ?_
      rintro e we ⟨rfl, hBe⟩
      have hbad5 := hbad4.below hBe
      go_wp2_with fail
      refine (aLen_bad p _ we hbad5).mono ?_
      rintro e wf ⟨rfl, rfl⟩
      go_wp2_with fail
      have hall : Below wr.heap.size wr we := HB.trans ((hBc.trans ((hBd.trans (hBe.mono hBd.size)).mono hBc.size)).mono HB.size)
      go_roundw
      case rel => exact ⟨i + 1, by omega, by go_num, (hall.block _ l1).trans H1.out, (hall.block _ l2).trans H2.out, hB.trans (hall.mono hB.size)⟩
      case measure => simp [intOf]; omega
    · obtain rfl : i = 2 := by omega
      clear h1 h2
      go_wp2_with fail
      go_ret
      exact ⟨rfl, hB⟩

theorem nobody_walk (q k : Int) (w : World) (h0 : (Lit.int .u8 q).wf = true) (h1 : (Lit.int .i64 k).wf = true) : Calls Try.prog 7 #[.int .u8 q, .int .i64 k] w fun e w' => e = .returned (.bool true) ∧ Below w.heap.size w w' := nobody_true q k w

end Go.Proofs.Ytehgbpepaakanaa
