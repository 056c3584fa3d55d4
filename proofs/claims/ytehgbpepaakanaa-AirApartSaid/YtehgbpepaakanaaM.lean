/-
  The reference of air: its letters; Len, find.
-/
import Derived.Test.YtehgbpepaakanaaL
namespace Go.Proofs.Ytehgbpepaakanaa
open Go.RowKit
set_option linter.unusedVariables false
set_option linter.unusedSimpArgs false

/-- A slice of letters that can be read. -/
def RL (w : World) (a : Option Addr) (n cap : Nat) (xs : List LX) : Prop :=
  xs.length = n ∧ n ≤ cap ∧ (cap : Int) ≤ 9223372036854775807 ∧ (∀ x ∈ xs, BR w x.lv.a x.lv.m x.lv.d x.bs) ∧ (xs = [] ∨ ∃ b off, a = some ⟨b, off, none⟩ ∧ b < w.heap.size ∧
    ∀ (j : Nat) (x : LX), xs[j]? = some x → w.cell? ⟨b, off + j * 3, none⟩ = some (.int .u8 x.lv.f) ∧ w.cell? ⟨b, off + j * 3 + 1, none⟩ = some (.int .u8 x.lv.t) ∧ w.cell? ⟨b, off + j * 3 + 2, none⟩ = some (.slice x.lv.a x.lv.m x.lv.d))
theorem RL.below {w w' : World} {a : Option Addr} {n cap : Nat} {xs : List LX} (h : RL w a n cap xs) (hb : Below w.heap.size w w') : RL w' a n cap xs := by
  obtain ⟨h1, h2, h3, h4, h5⟩ := h
  refine ⟨h1, h2, h3, fun x hx => (h4 x hx).below hb, ?_⟩
  rcases h5 with h | ⟨b, off, e, hlt, hc⟩
  · exact .inl h
  · exact .inr ⟨b, off, e, Nat.lt_of_lt_of_le hlt hb.size, fun j x hx => ⟨(hb.cell (p := ⟨b, _, none⟩) hlt).trans (hc j x hx).1, (hb.cell (p := ⟨b, _, none⟩) hlt).trans (hc j x hx).2.1, (hb.cell (p := ⟨b, _, none⟩) hlt).trans (hc j x hx).2.2⟩⟩
theorem RL.get {w : World} {a : Option Addr} {n cap : Nat} {xs : List LX} (h : RL w a n cap xs) {j : Nat} {x : LX} (hx : xs[j]? = some x) : ∃ b off, a = some ⟨b, off, none⟩ ∧ w.cell? ⟨b, off + j * 3, none⟩ = some (.int .u8 x.lv.f) ∧ w.cell? ⟨b, off + j * 3 + 1, none⟩ = some (.int .u8 x.lv.t) ∧ w.cell? ⟨b, off + j * 3 + 2, none⟩ = some (.slice x.lv.a x.lv.m x.lv.d) ∧ BR w x.lv.a x.lv.m x.lv.d x.bs := by
  rcases h.2.2.2.2 with rfl | ⟨b, off, rfl, _, hc⟩
  · simp at hx
  · obtain ⟨h0, h1, h2⟩ := hc j x hx
    exact ⟨b, off, rfl, h0, h1, h2, h.2.2.2.1 x (List.mem_of_getElem? hx)⟩

/-- The letters to an end. -/
def toEnd (t : Int) (xs : List LX) : List LX := xs.filter fun x => decide (x.lv.t = t)
theorem toEnd_yes (t : Int) (xs : List LX) (k : Nat) (x : LX) (hx : xs[k]? = some x) (ht : x.lv.t = t) : toEnd t (xs.take (k + 1)) = toEnd t (xs.take k) ++ [x] := by
  rw [List.take_add_one, hx]; simp [toEnd, List.filter_append, ht]
theorem toEnd_no (t : Int) (xs : List LX) (k : Nat) (x : LX) (hx : xs[k]? = some x) (ht : x.lv.t ≠ t) : toEnd t (xs.take (k + 1)) = toEnd t (xs.take k) := by
  rw [List.take_add_one, hx]; simp [toEnd, List.filter_append, ht]
theorem toEnd_len (t : Int) (xs : List LX) : (toEnd t xs).length ≤ xs.length := List.length_filter_le _ _

theorem air_box (v : Value) (room : Int) (w : World) : ∃ w1, w.alloc (.cells #[v, .int .i64 room] 38) = w1 ∧ w1.heap[w.heap.size]? = some (.cells #[v, .int .i64 room] 38 (0, 0)) ∧ Below w.heap.size w w1 :=
  ⟨_, rfl, heap_alloc_new w _, (Below.refl _ w).alloc (Nat.le_refl _) _⟩

set_option maxHeartbeats 1000000 in
theorem refLen (a : Option Addr) (n cap : Nat) (xs : List LX) (room t : Int) (w : World) (h : RL w a n cap xs) :
    Calls Try.prog 16 #[.agg #[.slice a n cap, .int .i64 room], .int .u8 t] w fun e w' => e = .returned (.int .i64 ((toEnd t xs).length : Nat)) ∧ Below w.heap.size w w' := by
  obtain ⟨w1, hw1, hb, hB⟩ := air_box (.slice a n cap) room w
  have hn := h.1
  have hmax := h.2.2.1
  have hnc := h.2.1
  have HR := Lib.hid (h.below hB)
  have x0 := blk_cell hb 0
  have x1 := blk_cell hb 1
  simp at x0 x1
  have HW := Lib.hid hw1
  have HBk := Lib.hid hb
  have hl1 := lt_of_heap hb
  clear h hb hw1
  go_enter Try.func16, Try.ntmps16
  go_upto_region 2 with fail
  rw [HW.out]
  go_wp2_with fail
  go_loopw [6, 5] (fun ix nx wr => ∃ k : Nat, k ≤ n ∧ ix = .int .i64 k ∧ nx = .int .i64 ((toEnd t (xs.take k)).length : Nat) ∧ Below w1.heap.size w1 wr) (fun ix _ _ => n - (intOf ix).toNat)
  case atStart => exact ⟨0, by omega, rfl, rfl, Below.refl _ _⟩
  case round =>
    obtain ⟨k, hk, rfl, rfl, hBr⟩ := hrel
    have hbr := (hBr.block _ hl1).trans HBk.out
    have y0 := blk_cell hbr 0
    simp at y0
    clear hbr x0 x1
    by_cases hlt : k < n
    · obtain ⟨x, hx⟩ : ∃ x, xs[k]? = some x := ⟨_, List.getElem?_eq_getElem (hn ▸ hlt)⟩
      obtain ⟨b0, off, rfl, hc0, hc1, hc2, hbx⟩ := (HR.out.below hBr).get hx
      have hki : (k : Int) < (n : Int) := by omega
      have HX := Lib.hid hx
      have hlen : (toEnd t (xs.take k)).length ≤ k := by have := toEnd_len t (xs.take k); rw [List.length_take] at this; omega
      clear hbx hx hc2
      by_cases ht : x.lv.t = t
      · have hL := Lib.hid (toEnd_yes t xs k x HX.out ht)
        have htb : (x.lv.t == t) = true := by simpa using ht
        go_wp2_with fail
        go_roundw
        case rel => exact ⟨k + 1, by omega, by go_num, by rw [hL.out]; simp, hBr⟩
        case measure => simp [intOf]; omega
      · have hL := Lib.hid (toEnd_no t xs k x HX.out ht)
        have htb : (x.lv.t == t) = false := by simpa using ht
        go_wp2_with fail
        go_roundw
        case rel => exact ⟨k + 1, by omega, by go_num, by rw [hL.out], hBr⟩
        case measure => simp [intOf]; omega
    · obtain rfl : k = n := by omega
      rw [List.take_of_length_le (by omega)]
      go_wp2_with fail
      go_ret
      exact ⟨rfl, hB.trans (hBr.mono hB.size)⟩

set_option maxHeartbeats 1000000 in
/-- find: where the letter of a place stands; or -1. -/
theorem refFind (a : Option Addr) (n cap : Nat) (xs : List LX) (room t i : Int) (w : World) (h : RL w a n cap xs) :
    Calls Try.prog 36 #[.agg #[.slice a n cap, .int .i64 room], .int .u8 t, .int .i64 i] w fun e w' => Below w.heap.size w w' ∧
      ((∃ (k : Nat) (x : LX), e = .returned (.int .i64 k) ∧ xs[k]? = some x ∧ x.lv.t = t ∧ ((toEnd t (xs.take k)).length : Int) = i) ∨ (e = .returned (.int .i64 (-1)) ∧ (i < 0 ∨ ((toEnd t xs).length : Int) ≤ i))) := by
  obtain ⟨w1, hw1, hb, hB⟩ := air_box (.slice a n cap) room w
  have hn := h.1
  have hmax := h.2.2.1
  have hnc := h.2.1
  have HR := Lib.hid (h.below hB)
  have x0 := blk_cell hb 0
  have x1 := blk_cell hb 1
  simp at x0 x1
  have HW := Lib.hid hw1
  have HBk := Lib.hid hb
  have hl1 := lt_of_heap hb
  clear h hb hw1
  go_enter Try.func36, Try.ntmps36
  go_upto_region 2 with fail
  rw [HW.out]
  go_wp2_with fail
  go_loopw [8, 7] (fun ix nx wr => ∃ k : Nat, k ≤ n ∧ ix = .int .i64 k ∧ nx = .int .i64 ((toEnd t (xs.take k)).length : Nat) ∧ (i < 0 ∨ ((toEnd t (xs.take k)).length : Int) ≤ i) ∧ Below w1.heap.size w1 wr) (fun ix _ _ => n - (intOf ix).toNat)
  case atStart => exact ⟨0, by omega, rfl, rfl, by simp [toEnd]; omega, Below.refl _ _⟩
  case round =>
    obtain ⟨k, hk, rfl, rfl, hi, hBr⟩ := hrel
    have hbr := (hBr.block _ hl1).trans HBk.out
    have y0 := blk_cell hbr 0
    simp at y0
    clear hbr x0 x1
    by_cases hlt : k < n
    · obtain ⟨x, hx⟩ : ∃ x, xs[k]? = some x := ⟨_, List.getElem?_eq_getElem (hn ▸ hlt)⟩
      obtain ⟨b0, off, rfl, hc0, hc1, hc2, hbx⟩ := (HR.out.below hBr).get hx
      have hki : (k : Int) < (n : Int) := by omega
      have HX := Lib.hid hx
      have hlen : (toEnd t (xs.take k)).length ≤ k := by have := toEnd_len t (xs.take k); rw [List.length_take] at this; omega
      have HI := Lib.hid hi
      clear hbx hx hc2 hi
      by_cases ht : x.lv.t = t
      · have hL := Lib.hid (toEnd_yes t xs k x HX.out ht)
        have htb : (x.lv.t != t) = false := by simpa using ht
        by_cases hat : ((toEnd t (xs.take k)).length : Int) = i
        · have hab : (((toEnd t (xs.take k)).length : Int) == i) = true := by simpa using hat
          have HT := Lib.hid ht
          have HAT := Lib.hid hat
          clear ht hat
          go_wp2_with fail
          go_ret
          exact ⟨hB.trans (hBr.mono hB.size), .inl ⟨k, x, rfl, HX.out, HT.out, HAT.out⟩⟩
        · have hab : (((toEnd t (xs.take k)).length : Int) == i) = false := by simpa using hat
          go_wp2_with fail
          go_roundw
          case rel => exact ⟨k + 1, by omega, by go_num, by rw [hL.out]; simp, by rw [hL.out]; have := HI.out; simp; omega, hBr⟩
          case measure => simp [intOf]; omega
      · have hL := Lib.hid (toEnd_no t xs k x HX.out ht)
        have htb : (x.lv.t != t) = true := by simpa using ht
        go_wp2_with fail
        go_roundw
        case rel => exact ⟨k + 1, by omega, by go_num, by rw [hL.out], by rw [hL.out]; exact HI.out, hBr⟩
        case measure => simp [intOf]; omega
    · obtain rfl : k = n := by omega
      rw [List.take_of_length_le (by omega)] at hi
      go_wp2_with fail
      go_ret
      exact ⟨hB.trans (hBr.mono hB.size), .inr ⟨rfl, hi⟩⟩

end Go.Proofs.Ytehgbpepaakanaa
