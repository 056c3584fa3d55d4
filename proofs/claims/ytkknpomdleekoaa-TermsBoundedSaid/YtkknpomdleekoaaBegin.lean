/-
  TermsBegin: the walk.
-/
import Derived.Test.YtkknpomdleekoaaE
namespace Go.Proofs.Ytkknpomdleekoaa
open Go.RowKit
set_option linter.unusedVariables false
set_option linter.unusedSimpArgs false

theorem Ints.up {k : IntKind} {B B' : Nat} {w : World} {a : Option Addr} {zs : List Int} (h : Ints k B w a zs) (hB : B ≤ B') : Ints k B' w a zs := by
  rcases h with h | ⟨b, off, ha, hlt, hc⟩
  · exact .inl h
  · exact .inr ⟨b, off, ha, Nat.lt_of_lt_of_le hlt hB, hc⟩
theorem two {w : World} {g : Nat} {t : TypeId} {a b : Value} (h : w.heap[g]? = some (.cells #[a, b] t (0, 0))) : w.cell? ⟨g, 0, none⟩ = some a ∧ w.cell? ⟨g, 1, none⟩ = some b := ⟨cell_at h 0, cell_at h 1⟩

set_option maxHeartbeats 3200000 in
theorem begin_walk (x0 x1 n : Int) (a : Option Addr) (len cap : Nat) (z : List Int) (w : World) (_w0 : (Lit.int .i64 x0).wf = true) (_w1 : (Lit.int .i64 x1).wf = true) (_w2 : (Lit.int .i64 n).wf = true) (wz : IsRow .i64 w a len cap z) :
    Calls Try.prog 4 #[.agg #[.int .i64 x0, .int .i64 x1], .int .i64 n, .slice a len cap] w fun e w' => e = .returned (.bool true) ∧ Below w.heap.size w w' := by
  obtain ⟨I0, L0, hl, hm, wf0⟩ := wz.ints
  generalize z.take len = zs at *
  have HI := Lib.hid I0
  have HL := Lib.hid L0
  clear wz I0 L0 wf0 _w0 _w1 _w2
  have hm' : (len : Int) ≤ 9223372036854775807 := by omega
  go_enter Try.func4, Try.ntmps4
  go_wp2_with fail
  refine (alive_yes _).mono ?_
  rintro e w1 ⟨rfl, B1⟩
  have H0 := Lib.hid (kept B1 (heap_alloc_new w _))
  have D1 := Lib.hid (below_end ((Below.refl _ w).alloc (Nat.le_refl _) _) B1)
  obtain ⟨a0, a1⟩ := two H0.out
  clear B1
  by_cases hbig : (200 : Int) < (len : Int)
  · go_wp2
    go_ret
    exact ⟨rfl, D1.out⟩
  · go_wp2_with fail
    refine (new_any x0 x1 n _).mono ?_
    rintro e w2 ⟨rfl, B2⟩
    have H0' := Lib.hid (kept B2 H0.out)
    have D2 := Lib.hid (below_end D1.out B2)
    have l0 := (Array.getElem?_eq_some_iff.1 H0'.out).1
    clear B2 H0 D1 a0 a1
    obtain ⟨a0, a1⟩ := two H0'.out
    go_wp2_with fail
    refine (rnew_any x0 x1 n _).mono ?_
    rintro e w3 ⟨rfl, B3⟩
    have H0 := Lib.hid (kept B3 (heap_alloc1 H0'.out _))
    have H5 := Lib.hid (kept B3 (heap_alloc_new w2 _))
    have D3 := Lib.hid (below_end (D2.out.alloc D2.out.size _) B3)
    have l0' := (Array.getElem?_eq_some_iff.1 H0.out).1
    have l5' := (Array.getElem?_eq_some_iff.1 H5.out).1
    obtain ⟨a0', a1'⟩ := two H0.out
    obtain ⟨⟨b0, b1, b2, b3⟩, _⟩ := four H5.out
    clear B3 H0' D2 a0 a1 l0
    go_wp2_with fail
    refine (agree_any a len cap zs x0 x1 _ ((HI.out.below (D3.out.alloc D3.out.size _)).up (Nat.le_trans D3.out.size (by simp))) HL.out hl hm).mono ?_
    rintro e w4 ⟨rfl, rfl⟩
    go_wp2_with fail
    refine (ragree_any a len cap zs x0 x1 _ ((HI.out.below (D3.out.alloc D3.out.size _)).up (Nat.le_trans D3.out.size (by simp))) HL.out hl hm).mono ?_
    rintro e w5 ⟨rfl, rfl⟩
    go_wp2
    go_ret
    exact ⟨rfl, D3.out.alloc D3.out.size _⟩

end Go.Proofs.Ytkknpomdleekoaa
