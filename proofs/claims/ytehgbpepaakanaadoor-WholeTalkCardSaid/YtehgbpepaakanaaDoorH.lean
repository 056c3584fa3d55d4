/-
  Air: Again, Turn.
-/
import Derived.Test.YtehgbpepaakanaaDoorG
namespace Go.Proofs.YtehgbpepaakanaaDoor
open Go.RowKit
set_option linter.unusedVariables false
set_option maxRecDepth 20000
set_option linter.unusedSimpArgs false

theorem some_lx {L : List LX} {i : Nat} {x : Lt} (hx : (L.map LX.lt)[i]? = some x) : ∃ y, L[i]? = some y ∧ y.lt = x := by
  rw [List.getElem?_map] at hx
  cases e : L[i]? with
  | none => rw [e] at hx; simp at hx
  | some y => rw [e] at hx; exact ⟨y, rfl, by simpa using hx⟩

set_option maxHeartbeats 1000000 in
theorem again_full (P : Nat → Prop) (A : Nat) (room : Int) (st : Nat → List Lt) (t i : Nat) (x : Lt) (w : World) (h : AirAt w P A room st) (hr : 0 < room) (hr2 : room ≤ 1000) (ht : t < 17) (hx : (st t)[i]? = some x) (hm : x.bs.length ≤ 4000) (hn : room ≤ ((st t).length : Int)) :
    Calls Tryd.prog 10 #[.pointer (some ⟨A, 0, none⟩), .int .u8 t, .int .i64 i] w fun e w' => e = .returned (.int .i64 6) ∧ Below w.heap.size w w' := by
  obtain ⟨b, v, L, hA, hP, hst⟩ := h
  rw [hst t ht] at hx
  obtain ⟨⟨⟨f, tt, a, m, d⟩, bs⟩, hy, rfl⟩ := some_lx hx
  have hl : ((L t).map LX.lv).length = (st t).length := by rw [hst t ht]; simp
  have hbs := (hA.byt t ht _ (List.mem_of_getElem? hy)).read
  have hlen := hbs.len
  simp [LX.sv, LX.lt] at hbs hlen hm
  have H := Lib.hid (look_ok A room b v L t i f tt a m d bs w hA hr hr2 ht hy)
  have HA := Lib.hid hA
  have HBS := Lib.hid hbs
  clear hA hP hst hy hx hbs
  go_enter Tryd.func10, Tryd.ntmps10
  go_wp2_with fail
  refine H.out.mono ?_
  rintro e w2 ⟨rfl, hB2⟩
  obtain ⟨w3, hw3, hb, hB3⟩ := let_box f tt a m d w2
  have hB3' : Below w.heap.size w w3 := hB2.trans (hB3.mono hB2.size)
  have x0 := blk_cell hb 0
  have x1 := blk_cell hb 1
  have x2 := blk_cell hb 2
  simp at x0 x1 x2
  clear hb
  have HW3 := Lib.hid hw3
  clear hw3
  go_upto_region 4 with fail
  rw [HW3.out]
  go_wp2_with fail
  refine (own_is _ _ _ _ _ _ _ (HBS.out.below hB3') (by omega)).mono ?_
  rintro e w4 ⟨a', d', rfl, hS, hk, hB4⟩
  go_wp2_with fail
  refine (rPush_full (b t) (v t) room _ _ _ _ _ _ _ (RA.upd ((HA.out.keepB hB3').ring t ht) (Upd.of_below hB4 (fun _ => False)) (fun _ _ h => h)) hr (by rw [hl]; exact hn)).mono ?_
  rintro e w5 ⟨rfl, hB5⟩
  go_wp2_with fail
  go_ret
  exact ⟨rfl, hB3'.trans ((hB4.trans (hB5.mono hB4.size)).mono hB3'.size)⟩

set_option maxHeartbeats 1000000 in
theorem again_ok (P : Nat → Prop) (A : Nat) (room : Int) (st : Nat → List Lt) (t i : Nat) (x : Lt) (w : World) (h : AirAt w P A room st) (hr : 0 < room) (hr2 : room ≤ 1000) (ht : t < 17) (hx : (st t)[i]? = some x) (hm : x.bs.length ≤ 4000) (hn : ((st t).length : Int) < room) :
    Calls Tryd.prog 10 #[.pointer (some ⟨A, 0, none⟩), .int .u8 t, .int .i64 i] w fun e w' => e = .returned (.int .i64 0) ∧ ∃ P', AirAt w' P' A room (upd st t (st t ++ [x])) ∧ Upd P w w' ∧ (∀ k, P' k → P k ∨ w.heap.size ≤ k) := by
  obtain ⟨b, v, L, hA, hP, hst⟩ := h
  rw [hst t ht] at hx
  obtain ⟨⟨⟨f, tt, a, m, d⟩, bs⟩, hy, rfl⟩ := some_lx hx
  have hl : ((L t).map LX.lv).length = (st t).length := by rw [hst t ht]; simp
  have hbs := (hA.byt t ht _ (List.mem_of_getElem? hy)).read
  have hlen := hbs.len
  simp [LX.sv, LX.lt] at hbs hlen hm
  have H := Lib.hid (look_ok A room b v L t i f tt a m d bs w hA hr hr2 ht hy)
  have HA := Lib.hid hA
  have HP := Lib.hid hP
  have HS := Lib.hid hst
  have HBS := Lib.hid hbs
  clear hA hP hst hy hx hbs
  go_enter Tryd.func10, Tryd.ntmps10
  go_wp2_with fail
  refine H.out.mono ?_
  rintro e w2 ⟨rfl, hB2⟩
  obtain ⟨w3, hw3, hb, hB3⟩ := let_box f tt a m d w2
  have hB3' : Below w.heap.size w w3 := hB2.trans (hB3.mono hB2.size)
  have x0 := blk_cell hb 0
  have x1 := blk_cell hb 1
  have x2 := blk_cell hb 2
  simp at x0 x1 x2
  clear hb
  have HW3 := Lib.hid hw3
  clear hw3
  go_upto_region 4 with fail
  rw [HW3.out]
  go_wp2_with fail
  refine (own_is _ _ _ _ _ _ _ (HBS.out.below hB3') (by omega)).mono ?_
  rintro e w4 ⟨a', d', rfl, hS, hk, hB4⟩
  go_wp2_with fail
  refine (rPush (b t) (v t) room _ _ _ _ _ _ _ (RA.upd ((HA.out.keepB hB3').ring t ht) (Upd.of_below hB4 (fun _ => False)) (fun _ _ h => h)) hr (by omega) (by rw [hl]; exact hn)).mono ?_
  rintro e w5 ⟨rfl, v', hR5, hU, ho⟩
  go_wp2_with fail
  go_ret
  exact ⟨rfl, AirAt.push (tt := tt) HA.out HP.out HS.out ht (hB3'.trans (hB4.mono hB3'.size)) hS (fun k h => Nat.le_trans hB3'.size (hk k h)) hR5 hU ho hn⟩

set_option maxHeartbeats 1000000 in
theorem turn_none (P : Nat → Prop) (A : Nat) (room : Int) (st : Nat → List Lt) (t i : Nat) (x : Lt) (pl by' : Int) (w : World) (h : AirAt w P A room st) (hr : 0 < room) (hr2 : room ≤ 1000) (ht : t < 17) (hx : (st t)[i]? = some x) (hm : x.bs = []) :
    Calls Tryd.prog 11 #[.pointer (some ⟨A, 0, none⟩), .int .u8 t, .int .i64 i, .int .u16 pl, .int .u8 by'] w fun e w' => e = .returned (.int .i64 7) ∧ Below w.heap.size w w' := by
  obtain ⟨b, v, L, hA, hP, hst⟩ := h
  rw [hst t ht] at hx
  obtain ⟨⟨⟨f, tt, a, m, d⟩, bs⟩, hy, rfl⟩ := some_lx hx
  have hbs := (hA.byt t ht _ (List.mem_of_getElem? hy)).read
  have hlen := hbs.len
  simp [LX.sv, LX.lt] at hbs hlen hm
  subst hm
  obtain rfl : m = 0 := by simpa using hlen.symm
  have H := Lib.hid (look_ok A room b v L t i f tt a 0 d [] w hA hr hr2 ht hy)
  clear hA hP hst hy hx hbs
  go_enter Tryd.func11, Tryd.ntmps11
  go_wp2_with fail
  refine H.out.mono ?_
  rintro e w2 ⟨rfl, hB2⟩
  go_wp2_with fail
  go_ret
  exact ⟨rfl, hB2.alloc hB2.size _⟩

set_option maxHeartbeats 2000000 in
theorem turn_ok (A : Nat) (room : Int) (b : Nat → Nat) (v : Nat → Value) (L : Nat → List LX) (t i : Nat) (f tt : Int) (g : Nat) (m d : Nat) (bs : List Int) (pl : Nat) (by' : Int) (q : Nat) (y : Int) (cs : Array Value) (w : World) (hA : AirW w A room b v L) (hr : 0 < room) (hr2 : room ≤ 1000) (ht : t < 17) (hx : (L t)[i]? = some ⟨⟨f, tt, some ⟨g, 0, none⟩, m, d⟩, bs⟩)
    (hg : w.heap[g]? = some (.cells cs 5 (0, 0))) (hm : 0 < m) (hm2 : m ≤ 4000) (hpl : pl < 65536) (hq : pl % m = q) (hc : cs[q]? = some (.int .u8 y)) :
    Calls Tryd.prog 11 #[.pointer (some ⟨A, 0, none⟩), .int .u8 t, .int .i64 i, .int .u16 pl, .int .u8 by'] w fun e w' => e = .returned (.int .i64 0) ∧ ∃ w1, Below w.heap.size w w1 ∧ w' = (w1.setCell ⟨g, q, none⟩ (.int .u8 (bits .xor .u8 y by'))).drew := by
  have H := Lib.hid (look_ok A room b v L t i f tt _ m d bs w hA hr hr2 ht hx)
  clear hA hx
  go_enter Tryd.func11, Tryd.ntmps11
  go_wp2_with fail
  refine H.out.mono ?_
  rintro e w2 ⟨rfl, hB2⟩
  obtain ⟨w3, hw3, hb, hB3⟩ := let_box f tt (some ⟨g, 0, none⟩) m d w2
  have hB3' : Below w.heap.size w w3 := hB2.trans (hB3.mono hB2.size)
  have hlt := lt_of_heap hg
  have hg3 := (hB3'.block _ hlt).trans hg
  have c3 := blk_cell hg3 q
  rw [hc] at c3
  have f3 := blk_frozen hg3 q
  have hlt3 := Nat.lt_of_lt_of_le hlt hB2.size
  have x0 := blk_cell hb 0
  have x1 := blk_cell hb 1
  have x2 := blk_cell hb 2
  simp at x0 x1 x2
  clear hb
  have HW3 := Lib.hid hw3
  clear hw3
  go_upto_region 6 with fail
  rw [HW3.out]
  have hm0 : m ≠ 0 := by omega
  have hrem : (IntKind.i64.wrap (pl : Int)).tmod (m : Int) = (q : Int) := by
    rw [IntWalk.i64_in _ (by omega), ← hq, Int.tmod_eq_emod_of_nonneg (by omega)]
    omega
  have hqm : q < m := hq ▸ Nat.mod_lt _ hm
  have hqi : (q : Int) < (m : Int) := by omega
  have hne : g ≠ w2.heap.size := by omega
  have hne2 : w2.heap.size ≠ g := by omega
  go_region
  go_wp2_with fail
  go_ret
  exact ⟨rfl, w3, hB3', rfl⟩

end Go.Proofs.YtehgbpepaakanaaDoor
