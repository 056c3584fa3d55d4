/-
  party.Right of one who says.
-/
import Derived.Test.YtehgbpepaakanaaDoorTa
namespace Go.Proofs.YtehgbpepaakanaaDoor
open Go.RowKit
set_option linter.unusedVariables false
set_option linter.unusedSimpArgs false
set_option maxRecDepth 20000

attribute [local go_sem] Oper.semAt_some

/-- Packets numbered on from f, none too long. -/
def Consec (f : Int) (ps : List Pk) : Prop := ∀ (j : Nat) (x : Pk), ps[j]? = some x → x.q = f + j ∧ x.s.size ≤ 500
/-- The box of one who says. -/
def OB (w : World) (B : Nat) (nx : Int) (v : Value) (r : Int) : Prop := w.heap[B]? = some (.cells #[.int .i64 nx, v, .int .i64 r] 48 (0, 0))
theorem OB.cells {w : World} {B : Nat} {nx : Int} {v : Value} {r : Int} (h : OB w B nx v r) : w.cell? ⟨B, 0, none⟩ = some (.int .i64 nx) ∧ w.cell? ⟨B, 1, none⟩ = some v ∧ w.cell? ⟨B, 2, none⟩ = some (.int .i64 r) ∧
    w.frozen? ⟨B, 0, none⟩ = false ∧ w.frozen? ⟨B, 1, none⟩ = false ∧ w.frozen? ⟨B, 2, none⟩ = false := by
  have h0 := blk_cell h 0
  have h1 := blk_cell h 1
  have h2 := blk_cell h 2
  simp at h0 h1 h2
  exact ⟨h0, h1, h2, blk_frozen h 0, blk_frozen h 1, blk_frozen h 2⟩
theorem OB.set0 {w : World} {B : Nat} {nx : Int} {v : Value} {r : Int} (h : OB w B nx v r) (u : Int) : OB (w.setCell ⟨B, 0, none⟩ (.int .i64 u)) B u v r := by simpa [OB] using blk_set h 0 (.int .i64 u)
theorem OB.set1 {w : World} {B : Nat} {nx : Int} {v : Value} {r : Int} (h : OB w B nx v r) (u : Value) : OB (w.setCell ⟨B, 1, none⟩ u) B nx u r := by simpa [OB] using blk_set h 1 u
theorem OB.set2 {w : World} {B : Nat} {nx : Int} {v : Value} {r : Int} (h : OB w B nx v r) (u : Int) : OB (w.setCell ⟨B, 2, none⟩ (.int .i64 u)) B nx v u := by simpa [OB] using blk_set h 2 (.int .i64 u)
theorem OB.upd {w w' : World} {B : Nat} {nx : Int} {v : Value} {r : Int} (h : OB w B nx v r) {S : Nat → Prop} (hu : Upd S w w') (hn : ¬ S B) : OB w' B nx v r := hu.heap h hn
theorem OB.far {w : World} {B : Nat} {nx : Int} {v : Value} {r : Int} (h : OB w B nx v r) (p : Addr) (hp : B ≠ p.block) (u : Value) : OB (w.setCell p u) B nx v r := blk_far h p hp u

set_option maxHeartbeats 1000000 in
theorem right41 (nx : Int) (a : Option Addr) (m d : Nat) (ps : List Pk) (r : Int) (w : World) (h : PR w a m d ps) (hc : Consec (nx - m) ps) (hr : 1 ≤ r) (hr2 : r ≤ 100) (hm : (m : Int) ≤ r) (h0 : 0 ≤ nx - m) (h1 : nx ≤ 1048576) :
    Calls Tryd.prog 41 #[.agg #[.int .i64 nx, .slice a m d, .int .i64 r]] w fun e w' => e = .returned (.bool true) ∧ Below w.heap.size w w' := by
  have g1 : ¬ r < 1 := by omega
  have g2 : ¬ 100 < r := by omega
  have g3 : ¬ r < (m : Int) := by omega
  have g4 : ¬ nx - (m : Int) < 0 := by omega
  have hw : IntKind.i64.wrap (nx - (m : Int)) = nx - m := by rw [IntKind.wrap_i64]; omega
  obtain ⟨w2, hw2⟩ : ∃ w2, w.alloc (.cells #[.int .i64 nx, .slice a m d, .int .i64 r] 48) = w2 := ⟨_, rfl⟩
  have hB2 : Below w.heap.size w w2 := by rw [← hw2]; exact (Below.refl _ w).alloc (Nat.le_refl _) _
  have hb2 : OB w2 w.heap.size nx (.slice a m d) r := by rw [← hw2]; exact heap_alloc_new w _
  obtain ⟨x0, x1, x2, -⟩ := hb2.cells
  have HN := Lib.hid (num39 nx w2 (by omega) h1)
  have HR := Lib.hid (h.below hB2)
  have HC := Lib.hid hc
  have HW2 := Lib.hid hw2
  have HL := Lib.hid h.len
  clear h hc hb2 hw2
  go_enter Tryd.func41, Tryd.ntmps41
  go_upto_region 1 with fail
  rw [HW2.out]
  go_wp2_with (go_at_call 39; refine HN.out.mono ?_; rintro e w3 ⟨rfl, rfl⟩)
  go_loopw [41] (fun ix wr => ∃ j : Nat, j ≤ m ∧ ix = .int .i64 j ∧ Below w2.heap.size w2 wr) (fun ix _ => m - (RowKit.intOf ix).toNat)
  case atStart => exact ⟨0, by omega, rfl, Below.refl _ _⟩
  case round =>
    obtain ⟨j, hj, rfl, hB⟩ := hrel
    by_cases hlt : j < m
    · obtain ⟨x, hx⟩ : ∃ x, ps[j]? = some x := ⟨_, List.getElem?_eq_getElem (by rw [HL.out]; exact hlt)⟩
      rcases (HR.out.below hB) with ⟨_, h, _⟩ | ⟨b, rfl, hlb, hl, hd, hdm, hcc⟩
      · omega
      · obtain ⟨y0, y1⟩ := hcc j x hx
        obtain ⟨hq, hs⟩ := HC.out j x hx
        have hji : (j : Int) < (m : Int) := by omega
        have hs' : ¬ (500 : Int) < (x.s.size : Int) := by omega
        rw [hq] at y0
        have hwq : IntKind.i64.wrap (nx - (m : Int) + (j : Int)) = nx - m + j := by rw [IntKind.wrap_i64]; omega
        have HB := Lib.hid hB
        clear hcc hx hq hs hB
        go_wp2_with fail
        go_roundw
        case rel => exact ⟨j + 1, by omega, by go_num, HB.out.alloc HB.out.size _⟩
        case measure => simp [RowKit.intOf]; omega
    · obtain rfl : j = m := by omega
      go_wp2_with fail
      go_ret
      exact ⟨rfl, hB2.trans (hB.mono hB2.size)⟩
end Go.Proofs.YtehgbpepaakanaaDoor
