/-
  WholeSpoilt: the walk, note.Decode of a good frame taken as a premise.
-/
import Derived.Test.YtehgbpepaakanaaDoorEg
namespace Go.Proofs.YtehgbpepaakanaaDoor
open Go.RowKit Go.Shelf
set_option linter.unusedVariables false
set_option linter.unusedSimpArgs false
set_option maxRecDepth 20000

attribute [local go_sem] Oper.semAt_some

def DecGood : Prop := ∀ (b off d : Nat) (n : Nt) (w : World), rightB n = true → Ok8 n → b < w.heap.size → 25 + n.s.size ≤ d → (d : Int) ≤ 9223372036854775807 →
    (∀ j x, (frameOf (noteB n))[j]? = some x → w.cell? ⟨b, off + j, none⟩ = some (.int .u8 x)) →
    Calls Tryd.prog 13 #[.slice (some ⟨b, off, none⟩) (25 + n.s.size) d] w fun x w' => x = .returned (.tuple #[NV n, .int .i64 0]) ∧ Below w.heap.size w w'

theorem dec_spoilt (bs : List Int) (p : Nat) (x y : Int) (a : Option Addr) (m d : Nat) (w : World) (hBR : BR w a m d ((frameOf bs).set p y)) (hB : Byts bs) (hp : 3 ≤ p) (hx : (frameOf bs)[p]? = some x) (hne : y ≠ x) (hy : 0 ≤ y ∧ y < 256) (h0 : 0 < bs.length) (hbs : bs.length ≤ 4000) :
    Calls Tryd.prog 13 #[.slice a m d] w fun e w' => e = .returned (.tuple #[NV N0, .int .i64 4]) ∧ Below w.heap.size w w' := by
  have hlen := hBR.len
  rw [List.length_set, frameOf_len] at hlen
  rcases hBR with ⟨rfl, _, _⟩ | ⟨b, off, rfl, hlt, hl, hmd, hd, hc⟩
  · omega
  · obtain ⟨t0, t1, t2, t3, q0, q1, q2, r0, r1, r2, r3, hn, hby⟩ := spoilt bs p x y hB hp hx hne hy hbs
    exact dec_bad b off m d _ w hlt hl hmd hd hc hby _ _ (bs.length + 3) q0 q1 q2 (by omega) (by omega) (by omega) (by omega) t0 t1 t2 t3 r0 r1 r2 r3 hn
theorem dec_right (HG : DecGood) (n : Nt) (h : rightB n = true) (h8 : Ok8 n) (a : Option Addr) (m d : Nat) (w : World) (hBR : BR w a m d (frameOf (noteB n))) :
    Calls Tryd.prog 13 #[.slice a m d] w fun e w' => e = .returned (.tuple #[NV n, .int .i64 0]) ∧ Below w.heap.size w w' := by
  have hlen := hBR.len
  rw [frameOf_len, noteB_len] at hlen
  rcases hBR with ⟨rfl, _, _⟩ | ⟨b, off, rfl, hlt, hl, hmd, hd, hc⟩
  · omega
  · obtain rfl : m = 25 + n.s.size := by omega
    exact HG b off d n w h h8 hlt hmd hd hc
theorem xorB_ne (a b : Int) (ha : 0 ≤ a ∧ a < 256) (hb : 0 ≤ b ∧ b < 256) (h : ¬ b = 0) : xorB a b ≠ a := by
  obtain ⟨m, rfl⟩ := Int.eq_ofNat_of_zero_le ha.1
  obtain ⟨k, rfl⟩ := Int.eq_ofNat_of_zero_le hb.1
  rw [xorB_nat _ _ (by omega) (by omega)]
  intro e
  have e2 : m ^^^ k = m := by exact_mod_cast e
  have : k = 0 := by
    have e3 := congrArg (fun z => m ^^^ z) e2
    simp only [← Nat.xor_assoc, Nat.xor_self, Nat.zero_xor] at e3
    exact e3
  omega
/-- Equality of notes, which the walk does not open. -/
def eqn (x y : Value) : Sem Bool := Op.equalIn 10000 25 x y
theorem eqn_def (x y : Value) : Op.equalIn 10000 25 x y = eqn x y := rfl
theorem eq25 (w : World) (k mob tx ep v ki fr tt me : Int) (s : ByteArray) : (Op.equalIn 10000 25 (.agg #[.int .i64 k, .int .u8 mob, .int .i64 tx, .int .i64 ep, .int .i64 v, .int .i64 ki, .int .u8 fr, .int .u8 tt, .int .i64 me, .string s]) (.agg #[.int .i64 k, .int .u8 mob, .int .i64 tx, .int .i64 ep, .int .i64 v, .int .i64 ki, .int .u8 fr, .int .u8 tt, .int .i64 me, .string s])).run Tryd.prog w = .ok true w := by
  go_simp
attribute [local go_sem ↓] eqn_def

set_option maxHeartbeats 4000000 in
theorem spoilt_walk (HG : DecGood) (n : Nt) (h8 : Ok8 n) (place : Nat) (by' : Int) (hpl : place < 65536) (hby : 0 ≤ by' ∧ by' < 256) (w : World) :
    Calls Tryd.prog 3 #[NV n, .int .u16 place, .int .u8 by'] w fun e w' => e = .returned (.bool true) ∧ Below w.heap.size w w' := by
  obtain ⟨w2, hw2⟩ : ∃ w2, w.alloc (.cells (NC n) 25) = w2 := ⟨_, rfl⟩
  have hB2 : Below w.heap.size w w2 := by rw [← hw2]; exact (Below.refl _ w).alloc (Nat.le_refl _) _
  have hb1 : w2.heap[w.heap.size]? = some (.cells (NC n) 25 (0, 0)) := by rw [← hw2]; exact World.alloc_heap_new w _
  have H1 := Lib.hid hb1
  have HW2 := Lib.hid hw2
  have hl1 := lt_of_heap hb1
  have HG' := Lib.hid HG
  have HH8 := Lib.hid h8
  obtain ⟨c0, c1, c2, c3, c4, c5, c6, c7, c8, c9⟩ := note_cellsX hb1
  clear hb1 hw2 HG h8
  by_cases hs : (500 : Int) < (n.s.size : Int)
  · simp only [NV, NC] at HW2 ⊢
    go_enter Tryd.func3, Tryd.ntmps3
    go_upto_region 1 with fail
    rw [HW2.out]
    go_wp2_with fail
    refine (works_is _).mono ?_
    rintro e w3 ⟨rfl, hB3⟩
    go_wp2_with fail
    go_ret
    exact ⟨rfl, hB2.trans (hB3.mono hB2.size)⟩
  · by_cases h0 : by' = 0
    · subst h0
      simp only [NV, NC] at HW2 ⊢
      go_enter Tryd.func3, Tryd.ntmps3
      go_upto_region 1 with fail
      rw [HW2.out]
      go_wp2_with fail
      refine (works_is _).mono ?_
      rintro e w3 ⟨rfl, hB3⟩
      go_wp2_with fail
      go_ret
      exact ⟨rfl, hB2.trans (hB3.mono hB2.size)⟩
    · cases hr : rightB n with
      | false =>
        have HE := Lib.hid (enc_wrong n hr)
        have HR := Lib.hid (right_is n)
        rw [hr] at HR
        clear hr
        simp only [NV, NC] at HW2 HE HR ⊢
        go_enter Tryd.func3, Tryd.ntmps3
        go_upto_region 1 with fail
        rw [HW2.out]
        go_wp2_with fail
        refine (works_is _).mono ?_
        rintro e w3 ⟨rfl, hB3⟩
        have hb3 := (hB3.block _ hl1).trans H1.out
        clear c0 c1 c2 c3 c4 c5 c6 c7 c8 c9
        obtain ⟨c0, c1, c2, c3, c4, c5, c6, c7, c8, c9⟩ := note_cellsX hb3
        have HB3 := Lib.hid (hB2.trans (hB3.mono hB2.size))
        have H3 := Lib.hid hb3
        have hl3 := lt_of_heap hb3
        clear hB3 hb3
        go_wp2_with fail
        refine (HE.out _).mono ?_
        rintro e w4 ⟨rfl, hB4⟩
        have hb4 := (hB4.block _ hl3).trans H3.out
        clear c0 c1 c2 c3 c4 c5 c6 c7 c8 c9
        have HB4 := Lib.hid (HB3.out.trans (hB4.mono HB3.out.size))
        have H4 := Lib.hid hb4
        have hl4 := lt_of_heap hb4
        clear hB4 hb4
        go_wp2_with fail
        refine (new_hi 3 _ (by decide) (by decide)).mono ?_
        rintro e w5 ⟨A, rfl, -, hB5⟩
        have hb5 := (hB5.block _ hl4).trans H4.out
        obtain ⟨c0, c1, c2, c3, c4, c5, c6, c7, c8, c9⟩ := note_cellsX hb5
        have HB5 := Lib.hid (HB4.out.trans (hB5.mono HB4.out.size))
        clear hB5 hb5
        go_wp2_with fail
        refine (HR.out _).mono ?_
        rintro e w6 ⟨rfl, hB6⟩
        have HB6 := Lib.hid (HB5.out.trans (hB6.mono HB5.out.size))
        clear hB6
        go_wp2_with fail
        go_ret
        exact ⟨rfl, HB6.out⟩
      | true =>
        have HE := Lib.hid (enc_right n hr HH8.out)
        have hs5 : n.s.size ≤ 500 := by omega
        have hfl : (frameOf (noteB n)).length = 25 + n.s.size := by rw [frameOf_len, noteB_len]; omega
        have HFL := Lib.hid hfl
        have HR := Lib.hid hr
        clear hr hfl
        obtain ⟨L, hL⟩ : ∃ L, L = 25 + n.s.size := ⟨_, rfl⟩
        rw [← hL] at HE HFL
        have HL := Lib.hid hL
        have hL1 : 25 ≤ L := by omega
        have hL2 : L ≤ 525 := by omega
        clear hL
        simp only [NV, NC] at HW2 HE ⊢
        go_enter Tryd.func3, Tryd.ntmps3
        go_upto_region 1 with fail
        rw [HW2.out]
        go_wp2_with fail
        refine (works_is _).mono ?_
        rintro e w3 ⟨rfl, hB3⟩
        have hb3 := (hB3.block _ hl1).trans H1.out
        clear c0 c1 c2 c3 c4 c5 c6 c7 c8 c9
        obtain ⟨c0, c1, c2, c3, c4, c5, c6, c7, c8, c9⟩ := note_cellsX hb3
        have HB3 := Lib.hid (hB2.trans (hB3.mono hB2.size))
        have H3 := Lib.hid hb3
        have hl3 := lt_of_heap hb3
        clear hB3 hb3
        go_wp2_with fail
        refine (HE.out _).mono ?_
        rintro e w4 ⟨a4, k4, rfl, hown4, hB4⟩
        have hb4 := (hB4.block _ hl3).trans H3.out
        obtain ⟨bb, bo, rfl, hbb, hk4, hk4b, hrd⟩ := own_read hown4 HFL.out (by omega)
        clear c0 c1 c2 c3 c4 c5 c6 c7 c8 c9
        have HB4 := Lib.hid (HB3.out.trans (hB4.mono HB3.out.size))
        have H4 := Lib.hid hb4
        have hl4 := lt_of_heap hb4
        have HR4 := Lib.hid (show BR w4 (some ⟨bb, bo, none⟩) L k4 (frameOf (noteB n)) from .inr ⟨bb, bo, rfl, hbb, HFL.out, hk4, hk4b, hrd⟩)
        clear hB4 hb4 hown4 hrd
        go_wp2_with fail
        refine (new_hi 3 _ (by decide) (by decide)).mono ?_
        rintro e w5 ⟨A, rfl, hA5, hB5⟩
        have hS6 : Hid (Calls Tryd.prog 9 #[.pointer (some ⟨A, 0, none⟩), .agg #[.int .u8 1, .int .u8 16, .slice (some ⟨bb, bo, none⟩) L k4]] w5 fun e w' => e = .returned (.int .i64 0) ∧ AirHi (fun k => k < w4.heap.size) w' A 3 (upd (fun _ => []) 16 [⟨1, 16, frameOf (noteB n)⟩]) ∧ Kept (fun k => k < w4.heap.size) w5 w') :=
          send_hi 1 16 (some ⟨bb, bo, none⟩) L k4 (frameOf (noteB n)) hA5 (by decide) (by decide) (by omega) (HR4.out.below hB5) (by simp)
        have HB5 := Lib.hid hB5
        clear hA5 hB5
        obtain ⟨x0, hx0⟩ : ∃ x0 : Lt, x0 = ⟨1, 16, frameOf (noteB n)⟩ := ⟨_, rfl⟩
        rw [← hx0] at hS6
        have hxb : x0.bs = frameOf (noteB n) := by rw [hx0]
        have hxl : x0.bs.length = L := by rw [hxb]; exact HFL.out
        have HXB := Lib.hid hxb
        have HX0 := Lib.hid hx0
        clear hx0 hxb
        go_upto_region 7 with fail
        go_wp2_with fail
        refine hS6.out.mono ?_
        rintro e w6 ⟨rfl, hA6, hK6⟩
        have hA7 : Hid (Calls Tryd.prog 10 #[.pointer (some ⟨A, 0, none⟩), .int .u8 16, .int .i64 0] w6 fun e w' => e = .returned (.int .i64 0) ∧ AirHi (fun k => k < w4.heap.size) w' A 3 (upd (upd (fun _ => []) 16 [x0]) 16 (upd (fun _ => []) 16 [x0] 16 ++ [x0])) ∧ Kept (fun k => k < w4.heap.size) w6 w') :=
          again_hi 16 0 x0 hA6 (by decide) (by simp [upd]) (by omega) (by simp [upd])
        have HK6 := Lib.hid hK6
        clear hA6 hK6 hS6
        go_wp2_with fail
        refine hA7.out.mono ?_
        rintro e w7 ⟨rfl, hA7', hK7⟩
        have HA7 := Lib.hid hA7'
        have HK7 := Lib.hid (HK6.out.trans hK7)
        clear hA7' hK7 hA7
        obtain ⟨r, hrr⟩ : ∃ r, r = place % (L - 3) := ⟨_, rfl⟩
        have hr1 : r < L - 3 := by rw [hrr]; exact Nat.mod_lt _ (by omega)
        have hrm : ((place : Int)).tmod ((L : Int) - 3) = (r : Int) := by
          rw [Int.tmod_eq_emod_of_nonneg (by omega), hrr]
          have : (L : Int) - 3 = ((L - 3 : Nat) : Int) := by omega
          rw [this]; exact (Int.natCast_emod place (L - 3)).symm
        have hL3 : ¬ (L : Int) - 3 = 0 := by omega
        clear hrr
        obtain ⟨x1, hx1⟩ : ∃ x1 : Lt, x1 = x0.turn (3 + r) by' := ⟨_, rfl⟩
        obtain ⟨st7, hst7⟩ : ∃ st7, st7 = upd (upd (fun _ => []) 16 [x0]) 16 (upd (fun _ => []) 16 [x0] 16 ++ [x0]) := ⟨_, rfl⟩
        have hs16 : st7 16 = [x0, x0] := by rw [hst7]; simp [upd]
        rw [← hst7] at HA7
        have hT := turn_hi 16 0 x0 (3 + r) by' HA7.out (by decide) (by rw [hs16]; rfl) (by intro h; rw [h] at hxl; simp at hxl; omega) (by omega) (by omega)
        rw [hs16, ← hx1, show ((3 + r : Nat) : Int) = 3 + (r : Int) by omega] at hT
        have hT' : Hid (Calls Tryd.prog 11 #[.pointer (some ⟨A, 0, none⟩), .int .u8 16, .int .i64 0, .int .u16 (3 + (r : Int)), .int .u8 by'] w7 fun e w' => e = .returned (.int .i64 0) ∧ AirHi (fun k => k < w4.heap.size) w' A 3 (upd st7 16 [x1, x0]) ∧ Kept (fun k => k < w4.heap.size) w7 w') := hT
        have HX1 := Lib.hid hx1
        clear hx1 hst7 hT hs16
        go_upto_region 10 with fail
        go_wp2_with fail
        refine hT'.out.mono ?_
        rintro e w8 ⟨rfl, hA8, hK8⟩
        have hx1f : x1.f = 1 ∧ x1.t = 16 := by rw [HX1.out, HX0.out]; exact ⟨rfl, rfl⟩
        have hT1 := take_hi 16 0 x1 hA8 (by decide) (by simp [upd])
        rw [hx1f.1, hx1f.2] at hT1
        have hT1' : Hid (Calls Tryd.prog 12 #[.pointer (some ⟨A, 0, none⟩), .int .u8 16, .int .i64 0] w8 fun e w' => ∃ a m d, e = .returned (.tuple #[.agg #[.int .u8 1, .int .u8 16, .slice a m d], .int .i64 0]) ∧ BS w' (.slice a m d) x1.bs ∧ AirHi (fun k => k < w4.heap.size ∨ (Value.slice a m d).ownBlock = some k) w' A 3 (upd (upd st7 16 [x1, x0]) 16 ((upd st7 16 [x1, x0] 16).eraseIdx 0)) ∧ Kept (fun k => k < w4.heap.size) w8 w') := hT1
        have HK8 := Lib.hid (HK7.out.trans hK8)
        clear hT1 hA8 hK8 hx1f hT'
        go_upto_region 12 with fail
        go_wp2_with fail
        refine hT1'.out.mono ?_
        rintro e w9 ⟨a9, m9, d9, rfl, hS9, hA9, hK9⟩
        obtain ⟨w10, hw10⟩ : ∃ w10, w9.alloc (.cells #[.int .u8 1, .int .u8 16, .slice a9 m9 d9] 37) = w10 := ⟨_, rfl⟩
        have hB10 : Below w9.heap.size w9 w10 := by rw [← hw10]; exact (Below.refl _ w9).alloc (Nat.le_refl _) _
        have hb10 : w10.heap[w9.heap.size]? = some (.cells #[.int .u8 1, .int .u8 16, .slice a9 m9 d9] 37 (0, 0)) := by rw [← hw10]; exact World.alloc_heap_new w9 _
        have hz10 : w10.heap.size = w9.heap.size + 1 := by rw [← hw10]; simp
        have hA10 := hA9.add hB10 (fun k => k = w9.heap.size) (fun k hk => ⟨by omega, by omega⟩)
        have hBR10 := hS9.readS.below hB10
        have hT2 := take_hi 16 0 x0 hA10 (by decide) (by simp [upd])
        have hx0f : x0.f = 1 ∧ x0.t = 16 := by rw [HX0.out]; exact ⟨rfl, rfl⟩
        rw [hx0f.1, hx0f.2] at hT2
        have hT2' : Hid (Calls Tryd.prog 12 #[.pointer (some ⟨A, 0, none⟩), .int .u8 16, .int .i64 0] w10 fun e w' => ∃ a m d, e = .returned (.tuple #[.agg #[.int .u8 1, .int .u8 16, .slice a m d], .int .i64 0]) ∧ BS w' (.slice a m d) x0.bs ∧
            (w'.heap[w9.heap.size]? = some (.cells #[.int .u8 1, .int .u8 16, .slice a9 m9 d9] 37 (0, 0))) ∧ BR w' a9 m9 d9 x1.bs ∧ Kept (fun k => k < w4.heap.size) w10 w') := by
          refine hT2.mono ?_
          rintro e w' ⟨a, m, d, rfl, h1, -, h3⟩
          exact ⟨a, m, d, rfl, h1, h3.heap hb10 (.inr rfl), hBR10.kept h3 (fun g hg => .inl (.inr hg)), h3.less (fun k hk => .inl (.inl hk))⟩
        have HK10 := Lib.hid ((HK8.out.trans hK9).trans (Upd.of_below (hB10) _))
        have HW10 := Lib.hid hw10
        clear hS9 hA9 hK9 hw10 hB10 hb10 hA10 hBR10 hT2 hx0f hT1'
        go_upto_region 13 with fail
        rw [HW10.out]
        go_wp2_with fail
        refine hT2'.out.mono ?_
        rintro e w11 ⟨a11, m11, d11, rfl, hS11, hbox1, hBR11, hK11⟩
        obtain ⟨w12, hw12⟩ : ∃ w12, w11.alloc (.cells #[.int .u8 1, .int .u8 16, .slice a11 m11 d11] 37) = w12 := ⟨_, rfl⟩
        have hB12 : Below w11.heap.size w11 w12 := by rw [← hw12]; exact (Below.refl _ w11).alloc (Nat.le_refl _) _
        have hb12 : w12.heap[w11.heap.size]? = some (.cells #[.int .u8 1, .int .u8 16, .slice a11 m11 d11] 37 (0, 0)) := by rw [← hw12]; exact World.alloc_heap_new w11 _
        have hbox12 := blk_alloc hbox1 (.cells #[.int .u8 1, .int .u8 16, .slice a11 m11 d11] 37)
        rw [hw12] at hbox12
        have hBRb := Lib.hid (hBR11.below hB12)
        have hBRg := Lib.hid (hS11.readS.below hB12)
        have HK12 := Lib.hid ((HK10.out.trans hK11).trans (Upd.of_below hB12 _))
        have HW12 := Lib.hid hw12
        have l1 := lt_of_heap hbox12
        have l2 := lt_of_heap hb12
        have y2 := blk_cell hbox12 2
        have v2 := blk_cell hb12 2
        simp at y2 v2
        have Hbox := Lib.hid hbox12
        have Hb12 := Lib.hid hb12
        clear hS11 hbox1 hBR11 hK11 hw12 hB12 hb12 hbox12 hT2'
        go_upto_region 14 with fail
        rw [HW12.out]
        have hxbs : x1.bs = (frameOf (noteB n)).set (3 + r) (xorB ((frameOf (noteB n)).getD (3 + r) 0) by') := by
          rw [HX1.out]
          unfold Lt.turn
          rw [hxl, HXB.out, Nat.mod_eq_of_lt (show 3 + r < L by omega)]
        have hget : (frameOf (noteB n))[3 + r]? = some ((frameOf (noteB n)).getD (3 + r) 0) := by
          have hlt : 3 + r < (frameOf (noteB n)).length := by rw [HFL.out]; omega
          rw [List.getD_eq_getElem?_getD, List.getElem?_eq_getElem hlt]; rfl
        have hin := frameOf_byts (noteB_byts n) _ (List.mem_of_getElem? hget)
        have hBad : Hid (Calls Tryd.prog 13 #[.slice a9 m9 d9] w12 fun e w' => e = .returned (.tuple #[NV N0, .int .i64 4]) ∧ Below w12.heap.size w12 w') :=
          dec_spoilt (noteB n) (3 + r) _ _ a9 m9 d9 w12 (by have := hBRb.out; rwa [hxbs] at this) (noteB_byts n) (by omega) hget (xorB_ne _ _ hin hby h0) (by have := xorB_in _ _ ⟨hin.1, by omega⟩ ⟨hby.1, by omega⟩; omega) (by rw [noteB_len]; omega) (by rw [noteB_len]; omega)
        have hGood := Lib.hid (dec_right HG'.out n HR.out HH8.out a11 m11 d11)
        rw [HXB.out] at hBRg
        have hn12 : w12.heap[w.heap.size]? = some (.cells (NC n) 25 (0, 0)) := by
          have : Kept (fun k => k < w4.heap.size) w5 w12 := HK12.out
          exact this.heap ((HB5.out.block _ hl4).trans H4.out) hl4
        have HN12 := Lib.hid hn12
        have ln := lt_of_heap hn12
        clear hxbs hget hin hn12
        simp only [NV, N0] at hBad hGood
        go_wp2_with fail
        refine hBad.out.mono ?_
        rintro e w13 ⟨rfl, hB13⟩
        obtain ⟨w14, hw14⟩ : ∃ w14, w13.alloc (.cells #[.int .i64 0, .int .u8 0, .int .i64 0, .int .i64 0, .int .i64 0, .int .i64 0, .int .u8 0, .int .u8 0, .int .i64 0, .string ⟨#[]⟩] 25) = w14 := ⟨_, rfl⟩
        have hB14 : Below w12.heap.size w12 w14 := by rw [← hw14]; exact hB13.alloc hB13.size _
        have hn14 := (hB14.block _ ln).trans HN12.out
        have hb14 := (hB14.block _ l2).trans Hb12.out
        have hG14 := Lib.hid (hGood.out w14 (hBRg.out.below hB14))
        have HW14 := Lib.hid hw14
        have HB14 := Lib.hid hB14
        clear y2 v2
        have v2 := blk_cell hb14 2
        simp at v2
        have HN14 := Lib.hid hn14
        have ln14 := lt_of_heap hn14
        clear hB13 hB14 hw14 hb14 hn14
        go_upto_region 15 with fail
        rw [HW14.out]
        go_wp2_with fail
        refine hG14.out.mono ?_
        rintro e w15 ⟨rfl, hB15⟩
        obtain ⟨w16, hw16⟩ : ∃ w16, w15.alloc (.cells #[.int .i64 n.k, .int .u8 n.mob, .int .i64 n.tx, .int .i64 n.ep, .int .i64 n.v, .int .i64 n.ki, .int .u8 n.fr, .int .u8 n.tt, .int .i64 n.me, .string n.s] 25) = w16 := ⟨_, rfl⟩
        have hB16 : Below w14.heap.size w14 w16 := by rw [← hw16]; exact hB15.alloc hB15.size _
        have hn16 := (hB16.block _ ln14).trans HN14.out
        have hb16 : w16.heap[w15.heap.size]? = some (.cells (NC n) 25 (0, 0)) := by rw [← hw16]; exact World.alloc_heap_new w15 _
        have HW16 := Lib.hid hw16
        have HB16 := Lib.hid (HB14.out.trans (hB16.mono HB14.out.size))
        clear v2 hB15 hB16 hw16
        obtain ⟨y0, y1, y2, y3, y4, y5, y6, y7, y8, y9⟩ := note_cellsX hn16
        obtain ⟨z0, z1, z2, z3, z4, z5, z6, z7, z8, z9⟩ := note_cellsX hb16
        clear hn16 hb16
        have heq : (eqn (.agg #[.int .i64 n.k, .int .u8 n.mob, .int .i64 n.tx, .int .i64 n.ep, .int .i64 n.v, .int .i64 n.ki, .int .u8 n.fr, .int .u8 n.tt, .int .i64 n.me, .string n.s]) (.agg #[.int .i64 n.k, .int .u8 n.mob, .int .i64 n.tx, .int .i64 n.ep, .int .i64 n.v, .int .i64 n.ki, .int .u8 n.fr, .int .u8 n.tt, .int .i64 n.me, .string n.s])).run Tryd.prog w16 = .ok true w16 := eq25 w16 _ _ _ _ _ _ _ _ _ _
        go_upto_region 16 with fail
        rw [HW16.out]
        go_wp2_with fail
        go_ret
        refine ⟨rfl, ?_⟩
        have h4s : w.heap.size ≤ w4.heap.size := HB4.out.size
        have hK : Kept (fun k => k < w4.heap.size) w5 w12 := HK12.out
        have h5 : Below w.heap.size w w5 := HB4.out.trans (HB5.out.mono h4s)
        have h12 : Below w.heap.size w5 w12 := Upd.below hK (by have := HB5.out.size; omega) (fun i hi h => h (by omega))
        have h05 := h5.trans h12
        exact h05.trans (HB16.out.mono h05.size)
end Go.Proofs.YtehgbpepaakanaaDoor
