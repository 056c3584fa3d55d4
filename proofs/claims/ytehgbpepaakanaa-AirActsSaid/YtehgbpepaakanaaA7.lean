/-
  The law of air: AirActs, the walk.
-/
import Derived.Test.YtehgbpepaakanaaA6
namespace Go.Proofs.Ytehgbpepaakanaa
open Go.RowKit Go.Joins
set_option linter.unusedVariables false
set_option linter.unusedSimpArgs false

set_option maxHeartbeats 2000000 in
theorem acts_true (room : Int) (a : Option Addr) (n cap : Nat) (xs : List Ac) (w : World) (hx : Acts w a xs) (hn : xs.length = n) (hn2 : (n : Int) ≤ 9223372036854775807) : Calls Try.prog 4 #[.int .i64 room, .slice a n cap] w fun e w' => e = .returned (.bool true) ∧ Below w.heap.size w w' := by
  have HX := Lib.hid hx
  clear hx
  go_enter Try.func4, Try.ntmps4
  go_wp2_with fail
  refine (alive_is _).mono ?_
  rintro e w1 ⟨rfl, hB1⟩
  by_cases hr : 1 ≤ room ∧ room ≤ 1000
  · go_wp2_with fail
    refine (new_hi room _ hr.1 hr.2).mono ?_
    rintro e w2 ⟨A, rfl, hA2, hB2⟩
    have hBw : Below w.heap.size w w2 := hB1.trans (hB2.mono hB1.size)
    have hA := hA2.less (N' := fun k => k < w.heap.size) (fun k h => Nat.lt_of_lt_of_le h hB1.size)
    obtain ⟨hr1, hr2⟩ := hr
    obtain ⟨w3, hw3, hb3, hB3⟩ := air_box (.slice none 0 0) room w2
    have hl3 := lt_of_heap hb3
    have hws := hBw.size
    have hL0 : LoopAt w A w2.heap.size room 0 w3 := by
      refine ⟨_, fun q => q < w.heap.size, fun _ => [], none, 0, 0, [], fun q h => h, fun q h => .inl h, .inr rfl, by omega, hA.add hB3 (fun q => q = w2.heap.size) (fun q h => by omega), fun i hi x hx => (by cases hx), ⟨⟨rfl, Nat.le_refl _, by decide, fun x hx => (by cases hx), .inl rfl⟩, ⟨fun p hp => (by cases hp), fun x hx => (by cases hx)⟩⟩, fun x hx => (by cases hx), ⟨fun i hi => rfl, fun x hx => (by cases hx)⟩, Nat.le_refl _, hb3, hws, hBw.trans (hB3.mono hws)⟩
    have HL0 := Lib.hid hL0
    have HW3 := Lib.hid hw3
    clear hL0 hw3 hb3 hA hA2 hB1 hB2 hB3
    go_wp2_with fail
    rw [HW3.out]
    go_loopw [7] (fun ix wr => ∃ j : Nat, j ≤ n ∧ j ≤ 80 ∧ ix = .int .i64 j ∧ LoopAt w A w2.heap.size room j wr) (fun ix _ => n - (intOf ix).toNat)
    case atStart => exact ⟨0, by omega, by omega, rfl, HL0.out⟩
    case round =>
      clear HL0 HW3
      obtain ⟨j, hj, hj80, rfl, hLr⟩ := hrel
      have hB : Below w.heap.size w wr := by obtain ⟨N, NR, st, al', nl', cl', xl, hw0, hNR, hNm, hNRm, hA, hg, hR, hok, hT, hnl, hm', hmw, hB⟩ := hLr; exact hB
      have HLr := Lib.hid hLr
      clear hLr
      by_cases hlt : j < n ∧ j < 80
      · obtain ⟨hlt, hlt80⟩ := hlt
        obtain ⟨x, hx⟩ : ∃ x, xs[j]? = some x := ⟨_, List.getElem?_eq_getElem (hn ▸ hlt)⟩
        have hX := HX.out.below hB
        obtain ⟨b0, off, rfl, ⟨c0, c1, c2, c3, c4, c5, c6⟩, hbr, hx2, hxpl⟩ := hX.get hx
        have hji : (j : Int) < (n : Int) := by omega
        have hj8 : (j : Int) < 80 := by omega
        have HBR := Lib.hid hbr
        have HBW : Hid (BR w x.a x.m x.d x.bs) := by obtain ⟨_, _, _, _, h, _⟩ := HX.out.get hx; exact h
        have HXk := Lib.hid hx
        clear hB hX hbr hx
        go_wp2_with fail
        refine (few_is x.k x.f x.t x.a x.m x.d x.i x.pl x.z wr).mono ?_
        rintro e w4 ⟨rfl, hB4⟩
        by_cases hm4 : (x.m : Int) ≤ 4100
        all_goals (first | (have hd4 : decide ((x.m : Int) ≤ 4100) = true := by simpa using hm4) | (have hd4 : decide ((x.m : Int) ≤ 4100) = false := by simpa using hm4))
        all_goals simp only [hd4]
        · obtain ⟨N, NR, st, al, nl, cl, xl, hw0, hNR, hNm, hNRm, hA, hg, hR, hok, hT, hnl, hm, hmw', hB⟩ := HLr.out.below hB4 (Nat.le_refl _)
          have m0 := blk_cell hm 0
          have m1 := blk_cell hm 1
          simp at m0 m1
          have k0 := (hB4.cell (p := ⟨b0, off + j * 7, none⟩) (World.block_lt_of_cell? _ _ c0)).trans c0
          have k1 := (hB4.cell (p := ⟨b0, off + j * 7 + 1, none⟩) (World.block_lt_of_cell? _ _ c1)).trans c1
          have k2 := (hB4.cell (p := ⟨b0, off + j * 7 + 2, none⟩) (World.block_lt_of_cell? _ _ c2)).trans c2
          have k3 := (hB4.cell (p := ⟨b0, off + j * 7 + 3, none⟩) (World.block_lt_of_cell? _ _ c3)).trans c3
          have k4 := (hB4.cell (p := ⟨b0, off + j * 7 + 4, none⟩) (World.block_lt_of_cell? _ _ c4)).trans c4
          have k5 := (hB4.cell (p := ⟨b0, off + j * 7 + 5, none⟩) (World.block_lt_of_cell? _ _ c5)).trans c5
          have k6 := (hB4.cell (p := ⟨b0, off + j * 7 + 6, none⟩) (World.block_lt_of_cell? _ _ c6)).trans c6
          have HD := Lib.hid (does_done N NR hNR A al nl cl room x.k x.f x.t x.a x.m x.d x.bs x.i x.pl x.z w4 st xl hA hg hR hok hT (by omega) hx2 hxpl (HBR.out.below hB4) (fun hd g hg => hw0 g (HBW.out.ownlt hd hg)))
          have a0 := Lib.cell?_alloc_some (.cells #[.slice none 0 0, .int .i64 0] 38) k0
          have a1 := Lib.cell?_alloc_some (.cells #[.slice none 0 0, .int .i64 0] 38) k1
          have a2 := Lib.cell?_alloc_some (.cells #[.slice none 0 0, .int .i64 0] 38) k2
          have a3 := Lib.cell?_alloc_some (.cells #[.slice none 0 0, .int .i64 0] 38) k3
          have a4 := Lib.cell?_alloc_some (.cells #[.slice none 0 0, .int .i64 0] 38) k4
          have a5 := Lib.cell?_alloc_some (.cells #[.slice none 0 0, .int .i64 0] 38) k5
          have a6 := Lib.cell?_alloc_some (.cells #[.slice none 0 0, .int .i64 0] 38) k6
          have n0 := Lib.cell?_alloc_some (.cells #[.slice none 0 0, .int .i64 0] 38) m0
          have n1 := Lib.cell?_alloc_some (.cells #[.slice none 0 0, .int .i64 0] 38) m1
          clear c0 c1 c2 c3 c4 c5 c6
          go_upto_region 11 with fail
          go_cut [8, 9] from 48 to 57 (fun s8 s9 wx => s9 = .bool true ∧ ∃ g, s8 = .pointer (some ⟨g, 0, none⟩) ∧ NextAt w A w2.heap.size room (j + 1) g wx)
          case first =>
            go_region_with (first
              | (go_at_call 15; refine (HD.out _ (fun _ => False) ((Below.refl _ _).drew) (fun q hq => hq.elim)).mono ?_; rintro e w5 ⟨a', n', c', rfl, -, hD⟩; have HDn := Lib.hid hD; clear hD)
              | (go_at_call 15; refine (HD.out _ (fun q => q = w4.heap.size) (((Below.refl _ _).alloc (Nat.le_refl _) _).drew) (fun q hq => by simp [hq])).mono ?_; rintro e w5 ⟨a', n', c', rfl, -, hD⟩; have hgb := hD.box; have g0 := blk_cell hgb 0; have g1 := blk_cell hgb 1; have gf0 := blk_frozen hgb 0; have gf1 := blk_frozen hgb 1; simp at g0 g1; have HGB := Lib.hid hgb; have HDn := Lib.hid hD; clear hD hgb))
            all_goals (go_wp2_with fail; go_meet; first | exact ⟨rfl, _, rfl, HDn.out.after_b hw0 hNR hNm hNRm hA.lt hm hmw' hB hnl⟩ | exact ⟨rfl, _, rfl, HDn.out.after_a hw0 hNR hNm hNRm hA.lt hm hmw' hB hnl⟩)
          case rest =>
            clear hw0 hNR hNm hNRm hA hg hR hok hT hnl hm hB m0 m1 n0 n1 HD
            obtain ⟨rfl, g, rfl, hNx⟩ := hcut
            obtain ⟨al, nl, cl, v0, hm, hgx, hL7, hm7, hgm⟩ := hNx.take
            obtain ⟨w7, hw7⟩ : ∃ w7, (wc.setCell ⟨w2.heap.size, 0, none⟩ (.slice al nl cl)).setCell ⟨w2.heap.size, 1, none⟩ (.int .i64 room) = w7 := ⟨_, rfl⟩
            rw [hw7] at hL7 hm7
            have g0 := blk_cell hgx 0
            have g1 := blk_cell hgx 1
            have m0 := blk_cell hm 0
            have m1 := blk_cell hm 1
            have f0 := blk_frozen hm 0
            have f1 := blk_frozen hm 1
            have q0 := blk_cell hm7 0
            have q1 := blk_cell hm7 1
            simp at g0 g1 m0 m1 q0 q1
            have HL7 := Lib.hid hL7
            have HM7 := Lib.hid hm7
            have HW7 := Lib.hid hw7
            have hgm' : ¬ w2.heap.size = g := fun e => hgm e.symm
            clear k0 k1 k2 k3 k4 k5 k6 a0 a1 a2 a3 a4 a5 a6 hm hgx hL7 hm7 hw7 hNx
            obtain ⟨l, hl13, hl16⟩ := HL7.out.lens HM7.out x.t hx2
            have H13 := Lib.hid hl13
            have hB7 : Below w.heap.size w w7 := by obtain ⟨N, NR, st, al', nl', cl', xl, hw0, hNR, hNm, hNRm, hA, hg, hR, hok, hT, hnl, hm', hmw, hB⟩ := HL7.out; exact hB
            obtain ⟨b9, off9, e9, ⟨_, _, t7, _⟩, _⟩ := (HX.out.below hB7).get HXk.out
            cases e9
            have ht7 := World.block_lt_of_cell? _ _ t7
            have hq7 := World.block_lt_of_cell? _ _ q0
            have H16 : Hid (∀ w', Below w7.heap.size w7 w' → Calls Try.prog 16 #[.agg #[.slice al nl cl, .int .i64 room], .int .u8 x.t] w' fun e w'' => e = .returned (.int .i64 l) ∧ Below w7.heap.size w7 w'' ∧ w''.cell? ⟨w2.heap.size, 0, none⟩ = some (.slice al nl cl) ∧ w''.cell? ⟨w2.heap.size, 1, none⟩ = some (.int .i64 room) ∧ w''.cell? ⟨b0, off + j * 7 + 2, none⟩ = some (.int .u8 x.t)) := by
              intro w' hb
              refine (hl16 w' hb).mono ?_
              rintro e w'' ⟨rfl, hb2⟩
              exact ⟨rfl, hb2, (hb2.cell (p := ⟨w2.heap.size, 0, none⟩) hq7).trans q0, (hb2.cell (p := ⟨w2.heap.size, 1, none⟩) hq7).trans q1, (hb2.cell (p := ⟨b0, off + j * 7 + 2, none⟩) ht7).trans t7⟩
            clear hl13 hl16
            go_upto_region 13 with fail
            rw [HW7.out]
            go_region_held3 (fun w' => w'.cell? ⟨w2.heap.size, 0, none⟩ = some (.slice al nl cl) ∧ w'.cell? ⟨w2.heap.size, 1, none⟩ = some (.int .i64 room) ∧ w'.cell? ⟨b0, off + j * 7 + 2, none⟩ = some (.int .u8 x.t))
              (first | (simp [*]; done) | go_keep)
              (first
                | (go_at_call 13; refine (H13.out _ ((Below.refl _ _).drew)).mono ?_; rintro e w8 ⟨rfl, rfl⟩)
                | (go_at_call 16; refine (H16.out _ ((Below.refl _ _).drew)).mono ?_; rintro e w9 ⟨rfl, hB9, r0, r1, r2⟩))
            go_wp2_with fail
            go_roundw
            case rel => exact ⟨j + 1, by omega, by omega, by go_num, HL7.out.below hB9 (Nat.le_refl _)⟩
            case measure => simp [intOf]; omega
        · go_wp2_with fail
          go_roundw
          case rel => exact ⟨j + 1, by omega, by omega, by go_num, HLr.out.below hB4 (by omega)⟩
          case measure => simp [intOf]; omega
      · have hex : ¬ (j : Int) < (n : Int) ∨ ((j : Int) < (n : Int) ∧ ¬ (j : Int) < 80) := by omega
        have hL8 := Lib.hid (HLr.out.below (Below.refl _ _) hj80)
        clear HLr hB
        rcases hex with h1 | ⟨h1, h2⟩
        all_goals
          go_wp2_with fail
          go_loopw [78] (fun tx wr => ∃ t : Nat, t ≤ 17 ∧ tx = .int .u8 t ∧ LoopAt w A w2.heap.size room 80 wr) (fun tx _ => 17 - (intOf tx).toNat)
          case atStart => exact ⟨0, by omega, rfl, hL8.out⟩
          case round =>
            clear hL8
            obtain ⟨t, ht, rfl, hL⟩ := hrel
            by_cases ht17 : t < 17
            · have hti : (t : Int) < 17 := by omega
              have HL := Lib.hid hL
              clear hL
              go_wp2_with fail
              go_loopw [11] (fun sx wr => LoopAt w A w2.heap.size room 80 wr) (fun _ wr => nOf wr w2.heap.size)
              case atStart => exact HL.out
              case round =>
                clear HL
                have HLr := Lib.hid hrel
                obtain ⟨N, NR, st, al, nl, cl, xl, hw0, hNR, hNm, hNRm, hA, hg, hR, hok, hT, hnl, hm, hmw, hB⟩ := hrel
                have HRL := Lib.hid (refLen al nl cl xl room t _ hR.1)
                have hlen := hT.lens t
                rw [if_pos ht17] at hlen
                have htot := hT.total
                have hnlx := hR.1.1
                have m0 := blk_cell hm 0
                have m1 := blk_cell hm 1
                simp at m0 m1
                have hmeas : nOf wr w2.heap.size = nl := by unfold nOf; rw [m0]
                have HA := Lib.hid hA
                have HG := Lib.hid hg
                have HR := Lib.hid hR
                have HOK := Lib.hid hok
                have HT := Lib.hid hT
                have HM := Lib.hid hm
                have HB := Lib.hid hB
                have HW0 := Lib.hid hw0
                clear hA hg hR hok hT hm hB hw0
                go_wp2_with fail
                refine HRL.out.mono ?_
                rintro e w4 ⟨rfl, hB4⟩
                by_cases hl0 : (toEnd (t : Int) xl).length = 0
                · rw [hl0]
                  go_wp2_with fail
                  go_roundw
                  case rel => exact ⟨t + 1, by omega, by go_num, HLr.out.below hB4 (Nat.le_refl _)⟩
                  case measure => simp [intOf]; omega
                · have hl1 : (0 : Int) < (((toEnd (t : Int) xl).length : Nat) : Int) := by omega
                  have hA4 := HA.out.below hB4
                  have hm4 := (hB4.block _ (lt_of_heap HM.out)).trans HM.out
                  have hB04 := HB.out.trans (hB4.mono HB.out.size)
                  have k0 := blk_cell hm4 0
                  have k1 := blk_cell hm4 1
                  simp at k0 k1
                  have n0 := Lib.cell?_alloc_some (.cells #[.slice none 0 0, .int .i64 0] 38) k0
                  have n1 := Lib.cell?_alloc_some (.cells #[.slice none 0 0, .int .i64 0] 38) k1
                  have HD := Lib.hid (does_done N NR hNR A al nl cl room 3 0 t none 0 0 [] 0 0 0 w4 st xl hA4 HG.out (HR.out.below hB4) HOK.out HT.out (by omega) (by omega) (by omega) (.inl ⟨rfl, rfl, rfl⟩) (fun hd => absurd rfl hd))
                  have hst : tot (upd st t (stepL room 3 0 t (st t) [] 0 0 0)) < nl := by
                    rw [← hnlx, htot]
                    refine tot_take st t ht17 _ ?_
                    have e : stepL room 3 0 t (st t) [] 0 0 0 = (st t).eraseIdx 0 := by simp [stepL]
                    rw [e, List.length_eraseIdx, if_pos (by omega)]
                    omega
                  clear n0 n1
                  go_wp2_with fail
                  refine (HD.out _ (fun _ => False) (Below.refl _ _) (fun q hq => hq.elim)).mono ?_
                  rintro e w5 ⟨a', n', c', rfl, hn', hD⟩
                  obtain ⟨w6, hw6, hg6, hB6⟩ := air_box (.slice a' n' c') room w5
                  have hs45 : w4.heap.size ≤ w5.heap.size := by
                    obtain ⟨N', NR', st', xl', h1, h2, h3, h4, h5, h5', h6, h7, h8, h9⟩ := hD
                    exact h6.size
                  have hNx := hD.after (Below.refl _ w4) HW0.out hNR hNm hNRm hA4.lt hm4 hmw hB04 hnl hs45 (Upd.of_below hB6 _) ⟨fun h => by omega, fun h => by omega⟩ hg6
                  obtain ⟨al9, nl9, cl9, v0, hm9, hgx, hL7, hm7, hgm⟩ := (hNx.less hg6 (c' := 80) (by omega)).take
                  rw [hg6] at hgx
                  simp at hgx
                  obtain ⟨rfl, rfl, rfl⟩ := hgx
                  obtain ⟨w7, hw7⟩ : ∃ w7, (w6.setCell ⟨w2.heap.size, 0, none⟩ (.slice a' n' c')).setCell ⟨w2.heap.size, 1, none⟩ (.int .i64 room) = w7 := ⟨_, rfl⟩
                  rw [hw7] at hL7 hm7
                  have g0 := blk_cell hg6 0
                  have g1 := blk_cell hg6 1
                  have p0 := blk_cell hm9 0
                  have p1 := blk_cell hm9 1
                  have f0 := blk_frozen hm9 0
                  have f1 := blk_frozen hm9 1
                  have q0 := blk_cell hm7 0
                  simp at g0 g1 p0 p1 q0
                  have hmeas2 : nOf w7 w2.heap.size = n' := by unfold nOf; rw [q0]
                  have HL7 := Lib.hid hL7
                  have HW6 := Lib.hid hw6
                  have HW7 := Lib.hid hw7
                  have HMS := Lib.hid hmeas
                  have HMS2 := Lib.hid hmeas2
                  have hlt9 : n' < nl := by omega
                  clear hNR hNm hNRm hA4 hm4 hB04 k0 k1 HD m0 m1 hD hNx hm9 hg6 hL7 hm7 hw6 hw7 hmeas hmeas2 hn' q0 hs45
                  go_upto_region 20 with fail
                  rw [HW6.out]
                  go_upto_region 21 with fail
                  rw [HW7.out]
                  go_wp2_with fail
                  go_roundw
                  case rel => exact HL7.out
                  case measure => rw [HMS.out, HMS2.out]; exact hlt9
            · go_wp2_with fail
              go_ret
              exact ⟨rfl, by obtain ⟨N, NR, st, al', nl', cl', xl, hw0, hNR, hNm, hNRm, hA, hg, hR, hok, hT, hnl, hm', hmw, hB⟩ := hL; exact hB⟩
  · have hrd : room < 1 ∨ 1000 < room := by omega
    have hBw := hB1
    clear hr
    rcases hrd with h1 | h1
    · have hno := aNew_no room w1 (.inl h1)
      go_wp2_with fail
      refine hno.mono ?_
      rintro e w2 ⟨rfl, rfl⟩
      have hB2 := Lib.hid (hBw.alloc hBw.size (.cells #[.slice none 0 0, .int .i64 room] 38))
      clear hno hB1 hBw
      go_wp2_with fail
      go_loopw [7] (fun ix wr => ix = .int .i64 0 ∧ Below w.heap.size w wr) (fun ix _ => 0)
      case atStart => exact ⟨rfl, hB2.out⟩
      case round =>
        clear hB2
        obtain ⟨rfl, hB⟩ := hrel
        go_wp2_with fail
        go_loopw [78] (fun tx wr => ∃ t : Nat, t ≤ 17 ∧ tx = .int .u8 t ∧ Below w.heap.size w wr) (fun tx _ => 17 - (intOf tx).toNat)
        case atStart => exact ⟨0, by omega, rfl, hB⟩
        case round =>
          clear hB
          obtain ⟨t, ht, rfl, hB⟩ := hrel
          by_cases ht17 : t < 17
          · have hti : (t : Int) < 17 := by omega
            go_wp2_with fail
            go_loopw [11] (fun sx wr => Below w.heap.size w wr) (fun _ _ => 0)
            case atStart => exact hB
            case round =>
              clear hB
              go_wp2_with fail
              go_roundw
              case rel => exact ⟨t + 1, by omega, by go_num, hrel⟩
              case measure => simp [intOf]; omega
          · go_wp2_with fail
            go_ret
            exact ⟨rfl, hB⟩
    · have hno := aNew_no room w1 (.inr h1)
      go_wp2_with fail
      refine hno.mono ?_
      rintro e w2 ⟨rfl, rfl⟩
      have hB2 := Lib.hid (hBw.alloc hBw.size (.cells #[.slice none 0 0, .int .i64 room] 38))
      clear hno hB1 hBw
      go_wp2_with fail
      go_loopw [7] (fun ix wr => ix = .int .i64 0 ∧ Below w.heap.size w wr) (fun ix _ => 0)
      case atStart => exact ⟨rfl, hB2.out⟩
      case round =>
        clear hB2
        obtain ⟨rfl, hB⟩ := hrel
        go_wp2_with fail
        go_loopw [78] (fun tx wr => ∃ t : Nat, t ≤ 17 ∧ tx = .int .u8 t ∧ Below w.heap.size w wr) (fun tx _ => 17 - (intOf tx).toNat)
        case atStart => exact ⟨0, by omega, rfl, hB⟩
        case round =>
          clear hB
          obtain ⟨t, ht, rfl, hB⟩ := hrel
          by_cases ht17 : t < 17
          · have hti : (t : Int) < 17 := by omega
            go_wp2_with fail
            go_loopw [11] (fun sx wr => Below w.heap.size w wr) (fun _ _ => 0)
            case atStart => exact hB
            case round =>
              clear hB
              go_wp2_with fail
              go_roundw
              case rel => exact ⟨t + 1, by omega, by go_num, hrel⟩
              case measure => simp [intOf]; omega
          · go_wp2_with fail
            go_ret
            exact ⟨rfl, hB⟩

end Go.Proofs.Ytehgbpepaakanaa
