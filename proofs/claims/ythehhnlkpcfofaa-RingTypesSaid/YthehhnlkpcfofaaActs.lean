/-
  RingActs: the walk.
-/
import Derived.Test.YthehhnlkpcfofaaRef
import Derived.Test.YthehhnlkpcfofaaO2
import Derived.Deep.CutRange
import Derived.Deep.CutBlock
namespace Go.Proofs.Ythehhnlkpcfofaa
open Go.RowKit
set_option linter.unusedVariables false
set_option linter.unusedSimpArgs false

/-- The ring and the reference's list have the same. -/
def Both (w : World) (b : Nat) (rm : Int) (mv : Value) (zs : List Int) (wr : World) : Prop :=
  ∃ v, RI wr b v rm zs ∧ Hi w.heap.size b v ∧ MS wr w.heap.size mv zs ∧ (∀ q, mv.ownBlock = some q → ¬ Of b v q) ∧ Below w.heap.size w wr ∧ (zs.length : Int) ≤ rm

theorem hkeep {B : Nat} {a b : World} (h : Below B a b) {p : Addr} (hp : p.block < B) : b.cell? p = a.cell? p := h.cell hp

section
variable {w wr w1 : World} {b : Nat} {rm : Int} {mv mv' : Value} {zs zs' : List Int}
theorem MS.base {B B' : Nat} (h : MS wr B mv zs) (hb : ∀ g, mv.ownBlock = some g → B' ≤ g) : MS wr B' mv zs := ownsRow_base h hb
/-- A new list of the reference's. -/
theorem Both.fresh {v : Value} (hR : RI wr b v rm zs) (hM : MS w1 wr.heap.size mv' zs') (q : Nat) (hq : mv'.ownBlock = some q) : ¬ Of b v q := fun h => by
  have := (hM.lt q hq).1
  have := hR.lt q h
  omega
theorem MS.ring {B : Nat} {v : Value} (hM : MS wr B mv zs) (hd : ∀ q, mv.ownBlock = some q → ¬ Of b v q) (hU : Upd (Of b v) wr w1) : MS w1 B mv zs := ownsRow_upd hM hU hd
theorem Both.dis {B : Nat} {v v1 : Value} (hM : MS wr B mv zs) (hd : ∀ q, mv.ownBlock = some q → ¬ Of b v q) (ho : v1.ownBlock = v.ownBlock ∨ ∃ g, v1.ownBlock = some g ∧ wr.heap.size ≤ g) (q : Nat) (hq : mv.ownBlock = some q) : ¬ Of b v1 q := by
  rintro (rfl | h)
  · exact hd _ hq (.inl rfl)
  · rcases ho with e | ⟨g, e, hg⟩
    · exact hd _ hq (.inr (e.symm.trans h))
    · have := (hM.lt q hq).2
      rw [e] at h
      simp at h
      omega
end

set_option maxRecDepth 100000 in
set_option maxHeartbeats 8000000 in
theorem ringActs_walk (rm : Int) (a0 : Option Addr) (len0 cap0 : Nat) (acs : List Ac) (w : World) (wr : (Lit.int .i64 rm).wf = true) (hA : Acts w.heap.size w a0 acs) (hlen : acs.length = len0) (hlc : (len0 : Int) ≤ 9223372036854775807 ∧ ∀ ac ∈ acs, ac.Ok) :
    Calls Try.prog 6 #[.int .i64 rm, .slice a0 len0 cap0] w fun e w' => e = .returned (.bool true) ∧ Below w.heap.size w w' := by
  have hrw := bounds_i64 wr
  have HA := Lib.hid hA
  have HL := Lib.hid hlen
  have hl := hlc.1
  have HO := Lib.hid hlc.2
  clear wr hA hlen hlc
  by_cases hri : rm < 1 ∨ 10000 < rm
  · have HRI := Lib.hid hri
    clear hri
    go_enter Try.func6, Try.ntmps6
    go_wp2_with fail
    refine (alive_yes _).mono ?_
    rintro e wa ⟨rfl, hBa⟩
    go_wp2_with fail
    refine (new_no rm _ HRI.out).mono ?_
    rintro e wn ⟨rfl, rfl⟩
    go_wp2_with fail
    refine (rRight_no rm _ HRI.out).mono ?_
    rintro e wn ⟨rfl, rfl⟩
    go_wp2_with fail
    go_loopw [7] (fun ix wr => ix = .int .i64 0 ∧ wr = wa) (fun _ _ => 0)
    case atStart => exact ⟨rfl, rfl⟩
    case round =>
      obtain ⟨rfl, rfl⟩ := hrel
      go_wp2
      go_ret
      exact ⟨rfl, hBa⟩
  · have h1 : 1 ≤ rm := by omega
    have h2 : rm ≤ 10000 := by omega
    have h0 : 0 < rm := by omega
    clear hri
    go_enter Try.func6, Try.ntmps6
    go_wp2_with fail
    refine (alive_yes _).mono ?_
    rintro e wa ⟨rfl, hBa⟩
    go_wp2_with fail
    refine (new_ok rm _ h1 h2).mono ?_
    rintro e wn ⟨rfl, hR, hBn⟩
    have hB0 : Both w wa.heap.size rm (.slice none 0 0) [] wn :=
      ⟨_, hR, Hi.none hBa.size, World.ownsRow_nil _ _ _ _, fun q hq => by simp [Value.ownBlock] at hq, hBa.trans (hBn.mono hBa.size), by simp; omega⟩
    generalize wa.heap.size = b at *
    clear hBa hBn hR
    go_wp2_with fail
    refine (rRight_yes rm _ h1 h2).mono ?_
    rintro e wx ⟨rfl, rfl⟩
    go_wp2_with fail
    go_loopw [6, 7] (fun mv ix wr => ∃ (k : Nat) (zs : List Int), k ≤ len0 ∧ k ≤ 100 ∧ ix = .int .i64 k ∧ Both w b rm mv zs wr) (fun _ ix _ => len0 - (intOf ix).toNat)
    case atStart => exact ⟨0, [], Nat.zero_le _, by omega, rfl, hB0⟩
    case round =>
      obtain ⟨k, zs, hk, hk1, rfl, v, hR, hH, hM, hd, hBw, hzr⟩ := hrel
      obtain ⟨a2, c2, rfl⟩ := own_slice hM
      by_cases hlt : k < len0
      · by_cases hlt1 : k < 100
        · obtain ⟨ac, hac⟩ : ∃ ac, acs[k]? = some ac := ⟨_, List.getElem?_eq_getElem (by rw [HL.out]; exact hlt)⟩
          obtain ⟨e0, off0, rfl, x0, x1, x2⟩ := (HA.out.below hBw).get hac
          obtain ⟨⟨hk0, hk2⟩, hxw, hiw⟩ := HO.out ac (List.mem_of_getElem? hac)
          obtain ⟨g, hg⟩ : ∃ g, wr.heap.size = g := ⟨_, rfl⟩
          obtain ⟨w1, hw1⟩ : ∃ w1, wr.alloc (.cells #[.int .u8 ac.kind, .int .i64 ac.x, .int .i64 ac.i] 42) = w1 := ⟨_, rfl⟩
          have hu : Upd (fun _ => False) wr w1 := by rw [← hw1]; exact (Upd.refl _ wr).alloc _
          have R1 := hR.upd hu (fun _ _ h => h)
          have M1 : MS w1 w.heap.size (.slice a2 zs.length c2) zs := ownsRow_upd hM hu (fun _ _ h => h)
          have B1 : Below w.heap.size w w1 := by rw [← hw1]; exact hBw.alloc hBw.size _
          have hb1 : w1.heap[g]? = some (.cells #[.int .u8 ac.kind, .int .i64 ac.x, .int .i64 ac.i] 42 (0, 0)) := by rw [← hw1, ← hg]; exact World.alloc_heap_new wr _
          have y0 := blk_cell hb1 0
          have y1 := blk_cell hb1 1
          have y2 := blk_cell hb1 2
          simp at y0 y1 y2
          have hzl : (zs.length : Int) ≤ 10000 := by omega
          have hM1 := M1.ints.2
          have HI1 := Lib.hid hM1
          generalize hkx : ac.kind = kx at *
          generalize hxx : ac.x = xx at *
          generalize hix : ac.i = ii at *
          clear hac hM hR hM1 hkx hxx hix hu hb1 hB0
          have hrl : zs.length * 8 ≤ 140737488351232 := by omega
          have hd100 : decide ((k : Int) < 100) = true := by simp; omega
          go_upto_block 2 with fail
          go_cut [6, 9, 10, 11, 12, 13, 14, 15, 16, 17, 18, 19, 20, 21] from 51 to 131 (fun s6 s9 s10 s11 s12 s13 s14 s15 s16 s17 s18 s19 s20 s21 wx => s9 = .bool true ∧ ∃ zs', Both w b rm s6 zs' wx)
          case first =>
            by_cases k3 : kx % 6 = 3
            · cases zs with
              | nil =>
                simp only [List.length_nil] at *
                go_wp2_with fail
                refine (iPop_none b v rm _ R1 h0).mono ?_
                rintro e w2 ⟨rfl, rfl⟩
                go_wp2_with fail
                refine (rAt_out a2 0 c2 0 _ (by omega) (.inr (by omega))).mono ?_
                rintro e w2 ⟨rfl, rfl⟩
                go_wp2_with fail
                refine (rDrop_out a2 0 c2 0 _ (by omega) (.inr (by omega))).mono ?_
                rintro e w2 ⟨rfl, rfl⟩
                have F9 := Lib.hid (show Both w b rm (.slice a2 ([] : List Int).length c2) ([] : List Int) _ from ⟨v, R1, hH, M1, hd, B1, by simp; omega⟩)
                clear R1 M1
                go_wp2_with fail
                go_meet
                exact ⟨rfl, _, F9.out⟩
              | cons x t =>
                go_wp2_with fail
                refine (iPop b v rm x t _ R1 h0).mono ?_
                rintro e w2 ⟨rfl, v2, R2, U2, o2⟩
                have M2 := M1.ring hd U2
                have B2 := U2.onto B1 B1.size hH
                have H2 := hH.same o2
                have D2 := Both.dis M1 hd (.inl o2)
                clear U2 o2 R1 M1 y0 y1 y2 hw1
                go_wp2_with fail
                refine (rAt_in a2 c2 (x :: t) 0 _ M2.ints.2 hzl (by omega) x rfl).mono ?_
                rintro e w3 ⟨rfl, rfl⟩
                go_wp2_with fail
                refine (rDrop_in a2 c2 (x :: t) 0 _ M2.ints.2 hzl (by simp)).mono ?_
                rintro e w3 ⟨m3, rfl, M3, B3⟩
                replace M3 : MS w3 w2.heap.size m3 t := M3
                obtain ⟨a3, c3, rfl⟩ := own_slice M3
                have D3 := Both.fresh R2 M3
                have R3 := R2.upd (Upd.of_below B3 (fun _ => False)) (fun _ _ h => h)
                have B4 := B2.trans (B3.mono B2.size)
                have M4 : MS w3 w.heap.size (.slice a3 t.length c3) t := M3.base (fun g hg => Nat.le_trans B2.size (M3.lt g hg).1)
                have hrt : t.length * 8 ≤ 140737488351232 := by simp at hrl; omega
                have hzt : (t.length : Int) ≤ rm := by simp at hzr; omega
                clear R2 M2 M3 B3 D2
                have F9 := Lib.hid (show Both w b rm (.slice a3 t.length c3) t _ from ⟨v2, R3, H2, M4, D3, B4, hzt⟩)
                clear R3 M4
                go_wp2_with fail
                go_meet
                exact ⟨rfl, _, F9.out⟩
            · by_cases k4 : kx % 6 = 4
              · by_cases hin : 0 ≤ ii ∧ ii < (zs.length : Int)
                · obtain ⟨hin0, hin1⟩ := hin
                  obtain ⟨x, hx⟩ : ∃ x, zs[ii.toNat]? = some x := ⟨_, List.getElem?_eq_getElem (by omega)⟩
                  have HX := Lib.hid hx
                  clear hx
                  go_wp2_with fail
                  refine (iAt_in b v rm zs ii _ R1 h0 hin0 x HX.out).mono ?_
                  rintro e w2 ⟨rfl, rfl⟩
                  go_wp2_with fail
                  refine (rAt_in a2 c2 zs ii _ HI1.out hzl hin0 x HX.out).mono ?_
                  rintro e w2 ⟨rfl, rfl⟩
                  have F9 := Lib.hid (show Both w b rm (.slice a2 zs.length c2) zs _ from ⟨v, R1, hH, M1, hd, B1, hzr⟩)
                  clear R1 M1
                  go_wp2_with fail
                  go_meet
                  exact ⟨rfl, _, F9.out⟩
                · have hout : ii < 0 ∨ (zs.length : Int) ≤ ii := by omega
                  have HOUT := Lib.hid hout
                  clear hout hin
                  go_wp2_with fail
                  refine (iAt_out b v rm zs ii _ R1 h0 HOUT.out).mono ?_
                  rintro e w2 ⟨rfl, rfl⟩
                  go_wp2_with fail
                  refine (rAt_out a2 _ c2 ii _ hzl HOUT.out).mono ?_
                  rintro e w2 ⟨rfl, rfl⟩
                  have F9 := Lib.hid (show Both w b rm (.slice a2 zs.length c2) zs _ from ⟨v, R1, hH, M1, hd, B1, hzr⟩)
                  clear R1 M1
                  go_wp2_with fail
                  go_meet
                  exact ⟨rfl, _, F9.out⟩
              · by_cases k5 : kx % 6 = 5
                · by_cases hin : 0 ≤ ii ∧ ii < (zs.length : Int)
                  · obtain ⟨i, rfl⟩ := Int.eq_ofNat_of_zero_le hin.1
                    have hi : i < zs.length := by omega
                    clear hin
                    go_wp2_with fail
                    refine (rDrop_in a2 c2 zs i _ HI1.out hzl hi).mono ?_
                    rintro e w2 ⟨m2, rfl, M2, B2⟩
                    obtain ⟨a3, c3, rfl⟩ := own_slice M2
                    have D2 := Both.fresh R1 M2
                    have R2 := R1.upd (Upd.of_below B2 (fun _ => False)) (fun _ _ h => h)
                    have B3 := B1.trans (B2.mono B1.size)
                    have M3 : MS w2 w.heap.size (.slice a3 (zs.eraseIdx i).length c3) (zs.eraseIdx i) := M2.base (fun g hg => Nat.le_trans B1.size (M2.lt g hg).1)
                    have z1 := (hkeep (B := w1.heap.size) B2 (p := ⟨g, 1, none⟩) (World.block_lt_of_cell? _ _ y1)).trans y1
                    have z2 := (hkeep (B := w1.heap.size) B2 (p := ⟨g, 2, none⟩) (World.block_lt_of_cell? _ _ y2)).trans y2
                    clear R1 M1 M2 B2 y0 y1 y2 hw1
                    go_wp2_with fail
                    refine (iDrop b v rm zs i _ R2 h0 hi).mono ?_
                    rintro e w4 ⟨rfl, v4, R4, U4, o4⟩
                    have M4 := M3.ring D2 U4
                    have B4 := U4.onto B3 B3.size hH
                    have H4 := hH.same o4
                    have D4 := Both.dis M3 D2 (.inl o4)
                    have hle := List.length_eraseIdx_le zs i
                    have hrt : (zs.eraseIdx i).length * 8 ≤ 140737488351232 := by omega
                    have hzt : ((zs.eraseIdx i).length : Int) ≤ rm := by omega
                    clear U4 o4 R2 M3 B3 z1 z2 hle
                    have F9 := Lib.hid (show Both w b rm (.slice a3 (zs.eraseIdx i).length c3) (zs.eraseIdx i) _ from ⟨v4, R4, H4, M4, D4, B4, hzt⟩)
                    clear R4 M4
                    go_wp2_with fail
                    go_meet
                    exact ⟨rfl, _, F9.out⟩
                  · have hout : ii < 0 ∨ (zs.length : Int) ≤ ii := by omega
                    have HOUT := Lib.hid hout
                    clear hout hin
                    go_wp2_with fail
                    refine (rDrop_out a2 _ c2 ii _ hzl HOUT.out).mono ?_
                    rintro e w2 ⟨rfl, rfl⟩
                    go_wp2_with fail
                    refine (iDrop_out b v rm zs ii _ R1 h0 HOUT.out).mono ?_
                    rintro e w2 ⟨rfl, rfl⟩
                    have F9 := Lib.hid (show Both w b rm (.slice a2 zs.length c2) zs _ from ⟨v, R1, hH, M1, hd, B1, hzr⟩)
                    clear R1 M1
                    go_wp2_with fail
                    go_meet
                    exact ⟨rfl, _, F9.out⟩
                · by_cases hf : (zs.length : Int) < rm
                  · go_wp2_with fail
                    refine (rPush_ok _ a2 _ c2 zs rm xx _ M1 (by omega) hf).mono ?_
                    rintro e w2 ⟨m2, rfl, M2, B2⟩
                    obtain ⟨a3, c3, rfl⟩ := own_slice M2
                    have D2 := Both.fresh R1 M2
                    have R2 := R1.upd (Upd.of_below B2 (fun _ => False)) (fun _ _ h => h)
                    have B3 := B1.trans (B2.mono B1.size)
                    have M3 : MS w2 w.heap.size (.slice a3 (zs ++ [xx]).length c3) (zs ++ [xx]) := M2.base (fun g hg => Nat.le_trans B1.size (M2.lt g hg).1)
                    have z1 := (hkeep (B := w1.heap.size) B2 (p := ⟨g, 1, none⟩) (World.block_lt_of_cell? _ _ y1)).trans y1
                    have z2 := (hkeep (B := w1.heap.size) B2 (p := ⟨g, 2, none⟩) (World.block_lt_of_cell? _ _ y2)).trans y2
                    clear R1 M1 M2 B2 y0 y1 y2 hw1
                    go_wp2_with fail
                    refine (iPush b v rm zs xx _ R2 h0 h2 hf).mono ?_
                    rintro e w4 ⟨rfl, v4, R4, U4, o4⟩
                    have M4 := M3.ring D2 U4
                    have B4 := U4.onto B3 B3.size hH
                    have H4 := hH.new B3.size o4
                    have D4 := Both.dis M3 D2 o4
                    have hrt : (zs ++ [xx]).length * 8 ≤ 140737488351232 := by simp; omega
                    have hzt : ((zs ++ [xx]).length : Int) ≤ rm := by simp; omega
                    clear U4 o4 R2 M3 B3 z1 z2
                    have F9 := Lib.hid (show Both w b rm (.slice a3 (zs ++ [xx]).length c3) (zs ++ [xx]) _ from ⟨v4, R4, H4, M4, D4, B4, hzt⟩)
                    clear R4 M4
                    go_wp2_with fail
                    go_meet
                    exact ⟨rfl, zs ++ [xx], by have h := F9.out; rw [List.length_append] at h; exact h⟩
                  · have hf2 : rm ≤ (zs.length : Int) := by omega
                    clear hf
                    go_wp2_with fail
                    refine (rPush_full a2 _ c2 rm xx _ hzl hf2).mono ?_
                    rintro e w2 ⟨rfl, rfl⟩
                    go_wp2_with fail
                    refine (iPush_full b v rm zs xx _ R1 h0 hf2).mono ?_
                    rintro e w2 ⟨rfl, U2⟩
                    have R2 := R1.upd U2 (fun _ _ h => h)
                    have M2 : MS w2 w.heap.size (.slice a2 zs.length c2) zs := ownsRow_upd M1 U2 (fun _ _ h => h)
                    have B2 := U2.onto B1 B1.size (fun _ h => h.elim)
                    clear U2 R1 M1 y0 y1 y2 hw1
                    have F9 := Lib.hid (show Both w b rm (.slice a2 zs.length c2) zs _ from ⟨v, R2, hH, M2, hd, B2, hzr⟩)
                    clear R2 M2
                    go_wp2_with fail
                    go_meet
                    exact ⟨rfl, _, F9.out⟩
          case rest =>
            obtain ⟨rfl, zs', v', R', H', M', d', B', hz'⟩ := hcut
            obtain ⟨a', c', rfl⟩ := own_slice M'
            have hrl' : zs'.length * 8 ≤ 140737488351232 := by omega
            have HI' := Lib.hid M'.ints.2
            have HH := Lib.hid (show Hi w.heap.size b v' ∧ MS _ w.heap.size (.slice a' zs'.length c') zs' ∧ (∀ q, (Value.slice a' zs'.length c').ownBlock = some q → ¬ Of b v' q) ∧ Below w.heap.size w _ ∧ (zs'.length : Int) ≤ rm from ⟨H', M', d', B', hz'⟩)
            clear M' H' d' B' hz' hH hd B1 R1 M1 HI1 hw1 y0 y1 y2
            go_wp2_with fail
            refine (same_n b v' rm zs' hrl' a' _ c' _ rfl R' h0 HI'.out).mono ?_
            rintro e w9 ⟨rfl, hB9⟩
            have F9 : Both w b rm (.slice a' zs'.length c') zs' w9 :=
              ⟨v', R'.upd (Upd.of_below hB9 (fun _ => False)) (fun _ _ h => h), HH.out.1, HH.out.2.1.below hB9, HH.out.2.2.1, HH.out.2.2.2.1.trans (hB9.mono HH.out.2.2.2.1.size), HH.out.2.2.2.2⟩
            clear R'
            go_wp2_with fail
            go_roundw
            case rel => exact ⟨k + 1, zs', by omega, by omega, by go_num, F9⟩
            case measure => simp [intOf]; omega
        · go_wp2_with fail
          go_ret
          exact ⟨rfl, hBw⟩
      · go_wp2_with fail
        go_ret
        exact ⟨rfl, hBw⟩

end Go.Proofs.Ythehhnlkpcfofaa
