/-
  The contracts of alive and does.
-/
import Derived.Test.YtaodgilfoihkfaaH
namespace Go.Proofs.Ytaodgilfoihkfaa
open Go.RowKit
set_option linter.unusedVariables false
set_option linter.unusedSimpArgs false

attribute [local go_sem ↓] ld22 ld23 ld25 ld30 st22 st23 st25 st30

def tA : Ta := ⟨[false, true, true, false, false, false, false, false], List.replicate 8 0, List.replicate 8 0⟩
def tB : Ta := ⟨[false, true, true, false, false, false, false, false], [0, 1, 0, 0, 0, 0, 0, 0], [0, 3, 0, 0, 0, 0, 0, 0]⟩
def tC : Ta := ⟨[false, true, true, false, false, false, false, false], [0, 1, 1, 0, 0, 0, 0, 0], [0, 3, 1, 0, 0, 0, 0, 0]⟩
theorem hA : tA.Len := ⟨rfl, rfl, rfl⟩
theorem hB : tB.Len := ⟨rfl, rfl, rfl⟩
theorem hC : tC.Len := ⟨rfl, rfl, rfl⟩
theorem eNew : Ta.new [1, 2] = (tA, 0) := by decide
theorem eAB : tA.put 1 3 1 = (tB, 0) := by decide
theorem eB2 : tB.put 1 2 1 = (tB, 10) := by decide
theorem eBC : tB.put 2 1 1 = (tC, 0) := by decide
theorem eC2 : tC.put 2 1 2 = (tC, 8) := by decide
theorem oB : tB.outcome = 0 := by decide
theorem oC : tC.outcome = 1 := by decide
theorem rC : tC.right = true := by decide

theorem put_at {t : Ta} (hl : t.Len) (who : Nat) (ep vote : Int) {u : Ta} {e : Int} (h : t.put who ep vote = (u, e)) (w : World) :
    Calls Try.prog 11 #[TV t, .int .u8 who, .int .i64 ep, .int .i64 vote] w fun x w' => x = .returned (.tuple #[TV u, .int .i64 e]) ∧ Below w.heap.size w w' := by
  have := put_is t hl who ep vote w
  rw [h] at this
  exact this
theorem outcome_at {t : Ta} (hl : t.Len) {o : Int} (h : t.outcome = o) (w : World) : Calls Try.prog 19 #[TV t] w fun e w' => e = .returned (.int .i64 o) ∧ Below w.heap.size w w' := by
  have := outcome_is t hl w
  rw [h] at this
  exact this
theorem right_at {t : Ta} (hl : t.Len) {o : Bool} (h : t.right = o) (w : World) : Calls Try.prog 17 #[TV t] w fun e w' => e = .returned (.bool o) ∧ Below w.heap.size w w' := by
  have := right_is t hl w
  rw [h] at this
  exact this

/-- A new variable. -/
theorem nv (w : World) {t : Ta} (hl : t.Len) : (sto 30 (.pointer (some ⟨w.heap.size, 0, none⟩)) (TV t)).run Try.prog (w.alloc (.cells zlit 30)) = .ok () ((w.alloc (.cells zlit 30)).setRow w.heap.size t.arr) ∧
    Bx ((w.alloc (.cells zlit 30)).setRow w.heap.size t.arr) w.heap.size t ∧ Below w.heap.size w ((w.alloc (.cells zlit 30)).setRow w.heap.size t.arr) :=
  ⟨(bx_zero w 30).sto30 zero_len hl, (bx_zero w 30).row t, brow ((Below.refl _ _).alloc (Nat.le_refl _) _) (Nat.le_refl _) _⟩
theorem nv25 (w : World) {t : Ta} (hl : t.Len) : (sto 25 (.pointer (some ⟨w.heap.size, 0, none⟩)) (TV t)).run Try.prog (w.alloc (.cells zlit 25)) = .ok () ((w.alloc (.cells zlit 25)).setRow w.heap.size t.arr) ∧
    Bx ((w.alloc (.cells zlit 25)).setRow w.heap.size t.arr) w.heap.size t ∧ Below w.heap.size w ((w.alloc (.cells zlit 25)).setRow w.heap.size t.arr) :=
  ⟨(bx_zero w 25).sto25 zero_len hl, (bx_zero w 25).row t, brow ((Below.refl _ _).alloc (Nat.le_refl _) _) (Nat.le_refl _) _⟩

theorem two_ints (w : World) : Ints .u8 (w.heap.size + 1) (w.alloc (.cells #[.int .u8 1, .int .u8 2] 5)) (some ⟨w.heap.size, 0, none⟩) [1, 2] := by
  refine .inr ⟨w.heap.size, 0, rfl, by omega, fun j x hx => ?_⟩
  have hj : j < 2 := (List.getElem?_eq_some_iff.1 hx).1
  rw [blk_cell (heap_alloc_new w _)]
  match j, hj with
  | 0, _ => injection hx with hx; subst hx; rfl
  | 1, _ => injection hx with hx; subst hx; rfl

set_option maxHeartbeats 3200000 in
theorem alive_yes (w : World) : Calls Try.prog 10 #[] w fun e w' => e = .returned (.bool true) ∧ Below w.heap.size w w' := by
  have N := new_is (some ⟨w.heap.size, 0, none⟩) 2 2 [1, 2] (w.heap.size + 1) (w.alloc (.cells #[.int .u8 1, .int .u8 2] 5)) (two_ints w) (by simp) rfl (by omega) (by omega) (by decide)
  rw [eNew] at N
  have NN := Lib.hid N
  clear N
  generalize hs : w.heap.size = B at *
  go_enter Try.func10, Try.ntmps10
  go_wp2_with fail
  refine NN.out.mono ?_
  rintro e w1 ⟨rfl, hb⟩
  have B1 : Below B w w1 := by
    rw [← hs]
    exact ((Below.refl _ _).alloc (Nat.le_refl _) _).trans (hb.mono (by simp))
  have hBs : B ≤ w1.heap.size := by rw [← hs]; rw [← hs] at B1; exact B1.size
  clear hb NN
  obtain ⟨s1, c1, d1⟩ := nv w1 hA
  have l1 := c1.load30 hA
  have B2 := B1.trans (d1.mono hBs)
  have hgs : B ≤ w1.heap.size := hBs
  clear d1 B1
  go_wp2_with fail
  refine (put_at hA 1 3 1 eAB _).mono ?_
  rintro e w3 ⟨rfl, hb⟩
  replace c1 := c1.below hb
  replace B2 := B2.trans (hb.mono (Nat.le_trans (by rw [hs]; exact Nat.le_refl _) B2.size))
  clear s1 l1 hb
  generalize hg : w1.heap.size = g at *
  have s3 := c1.sto30 hA hB
  have c3 := c1.row tB
  replace B2 := brow B2 hgs tB.arr
  clear c1
  have l3 := c3.load30 hB
  go_wp2_with fail
  refine (outcome_at hB oB _).mono ?_
  rintro e w5 ⟨rfl, hb⟩
  replace c3 := c3.below hb
  replace B2 := B2.trans (hb.mono (Nat.le_trans (by rw [hs]; exact Nat.le_refl _) B2.size))
  clear s3 l3 hb
  have l5 := c3.load30 hB
  go_wp2_with fail
  refine (put_at hB 1 2 1 eB2 _).mono ?_
  rintro e w6 ⟨rfl, hb⟩
  replace c3 := c3.below hb
  replace B2 := B2.trans (hb.mono (Nat.le_trans (by rw [hs]; exact Nat.le_refl _) B2.size))
  clear l5 hb
  obtain ⟨s6, c6, d6⟩ := nv w6 hB
  replace c3 := c3.below d6
  replace B2 := B2.trans (d6.mono (Nat.le_trans (by rw [hs]; exact Nat.le_refl _) B2.size))
  clear d6 c6
  have l6 := c3.load30 hB
  go_wp2_with fail
  refine (put_at hB 2 1 1 eBC _).mono ?_
  rintro e w8 ⟨rfl, hb⟩
  replace c3 := c3.below hb
  replace B2 := B2.trans (hb.mono (Nat.le_trans (by rw [hs]; exact Nat.le_refl _) B2.size))
  clear l6 s6 hb
  have s8 := c3.sto30 hB hC
  have c8 := c3.row tC
  replace B2 := brow B2 hgs tC.arr
  clear c3
  have l8 := c8.load30 hC
  go_wp2_with fail
  refine (put_at hC 2 1 2 eC2 _).mono ?_
  rintro e w10 ⟨rfl, hb⟩
  replace c8 := c8.below hb
  replace B2 := B2.trans (hb.mono (Nat.le_trans (by rw [hs]; exact Nat.le_refl _) B2.size))
  clear l8 s8 hb
  obtain ⟨s10, c10, d10⟩ := nv w10 hC
  replace c8 := c8.below d10
  replace B2 := B2.trans (d10.mono (Nat.le_trans (by rw [hs]; exact Nat.le_refl _) B2.size))
  clear d10 c10
  have l10 := c8.load30 hC
  go_wp2_with fail
  refine (outcome_at hC oC _).mono ?_
  rintro e w12 ⟨rfl, hb⟩
  replace c8 := c8.below hb
  replace B2 := B2.trans (hb.mono (Nat.le_trans (by rw [hs]; exact Nat.le_refl _) B2.size))
  clear l10 s10 hb
  have l12 := c8.load30 hC
  go_wp2_with fail
  refine (right_at hC rC _).mono ?_
  rintro e w13 ⟨rfl, hb⟩
  replace B2 := B2.trans (hb.mono (Nat.le_trans (by rw [hs]; exact Nat.le_refl _) B2.size))
  clear l12 hb
  go_wp2
  go_ret
  exact ⟨rfl, B2⟩

end Go.Proofs.Ytaodgilfoihkfaa
