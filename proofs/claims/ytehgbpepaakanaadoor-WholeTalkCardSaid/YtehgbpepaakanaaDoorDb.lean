/-
  The disk: First of a frame, All.
-/
import Derived.Test.YtehgbpepaakanaaDoorDa
import Derived.WalkMore
namespace Go.Proofs.YtehgbpepaakanaaDoor
open Go.RowKit Go.Shelf
set_option linter.unusedVariables false
set_option linter.unusedSimpArgs false
set_option maxRecDepth 20000

attribute [local go_sem] Oper.semAt_some

theorem frame_take (bs : List Int) : (frameOf bs).take (bs.length + 3) = hdr bs := by
  unfold frameOf
  rw [List.take_append_of_le_length (by rw [hdr_len]; exact Nat.le_refl _), List.take_of_length_le (by rw [hdr_len]; exact Nat.le_refl _)]
theorem frame_tail (bs : List Int) (j : Nat) : (frameOf bs)[bs.length + 3 + j]? = (tl4 (sumOf (hdr bs)))[j]? := by
  unfold frameOf
  rw [List.getElem?_append_right (by rw [hdr_len]; omega), hdr_len]
  congr 1
  omega

/-- First of a frame that was made. -/
theorem first_frame (b off d : Nat) (bs : List Int) (w : World) (hb : b < w.heap.size) (h0 : 0 < bs.length) (hm : bs.length ≤ 4000) (hd : bs.length + 7 ≤ d) (hd2 : (d : Int) ≤ 9223372036854775807)
    (hc : ∀ j x, (frameOf bs)[j]? = some x → w.cell? ⟨b, off + j, none⟩ = some (.int .u8 x)) (hB : Byts bs) :
    Calls Tryd.prog 36 #[.slice (some ⟨b, off, none⟩) (bs.length + 7) d] w fun x w' => ∃ a' c', x = .returned (.tuple #[.slice a' bs.length c', .int .i64 (bs.length + 7 : Nat), .int .i64 0]) ∧ w'.ownsRow w.heap.size 5 1 (.slice a' bs.length c') bs.length (cellsOf encB bs) ∧ Below w.heap.size w w' := by
  obtain ⟨t0, t1, t2, t3, ht⟩ : ∃ t0 t1 t2 t3, tl4 (sumOf (hdr bs)) = [t0, t1, t2, t3] := ⟨_, _, _, _, rfl⟩
  have g := frame_tail bs
  refine (first_is b off (bs.length + 7) d (frameOf bs) w hb (frameOf_len bs) hd hd2 hc (frameOf_byts hB) ((bs.length : Int) / 256 % 256) ((bs.length : Int) % 256) (bs.length + 3) rfl rfl rfl (by omega) (by omega) (by omega) (by omega) t0 t1 t2 t3
    (by have := g 0; rw [ht] at this; simpa using this) (by have := g 1; rw [ht] at this; simpa using this) (by have := g 2; rw [ht] at this; simpa using this) (by have := g 3; rw [ht] at this; simpa using this)).mono ?_
  rw [frame_take]
  rintro x w' ⟨h, hBe⟩
  rcases h with ⟨-, a', c', rfl, hown⟩ | ⟨hne, -⟩
  · have e : bs.length + 3 - 3 = bs.length := by omega
    rw [e] at hown ⊢
    exact ⟨a', c', rfl, hown, hBe⟩
  · exact absurd ht.symm hne

theorem Tryd.infoS : (Tryd.prog.info? 28).map (fun i => (i.zero, i.size, i.bytes)) = some (some (.slice none 0 0), 1, 24) := by kernel_rfl

set_option maxHeartbeats 2000000 in
theorem all47 (b off d : Nat) (bs : List Int) (w : World) (hb : b < w.heap.size) (h0 : 0 < bs.length) (hm : bs.length ≤ 4000) (hd : bs.length + 7 ≤ d) (hd2 : (d : Int) ≤ 9223372036854775807)
    (hc : ∀ j x, (frameOf bs)[j]? = some x → w.cell? ⟨b, off + j, none⟩ = some (.int .u8 x)) (hB : Byts bs) :
    Calls Tryd.prog 47 #[.slice (some ⟨b, off, none⟩) (bs.length + 7) d] w fun x w' => ∃ ob oo oc xa xc, x = .returned (.tuple #[.slice (some ⟨ob, oo, none⟩) 1 oc, .int .i64 (bs.length + 7 : Nat)]) ∧ w'.cell? ⟨ob, oo, none⟩ = some (.slice xa bs.length xc) ∧ 1 ≤ oc ∧
      w'.ownsRow w.heap.size 5 1 (.slice xa bs.length xc) bs.length (cellsOf encB bs) ∧ Below w.heap.size w w' := by
  obtain ⟨i0, hi0, hz0, hz1, hz2⟩ := info_parts Tryd.infoS
  have HC := Lib.hid hc
  clear hc
  obtain ⟨m, hmm⟩ : ∃ m, m = bs.length := ⟨_, rfl⟩
  have HM := Lib.hid hmm
  rw [← hmm] at h0 hm hd ⊢
  clear hmm
  have hm7 : (m : Int) + 7 ≤ (d : Int) := by omega
  have hm0 : (0 : Int) ≤ (m : Int) + 7 := by omega
  go_enter Tryd.func47, Tryd.ntmps47
  go_wp2_with fail
  go_step3
  go_wp2_with fail
  go_step3
  go_wp2_with fail
  go_loopw [4, 5] (fun ov at' wr => Below w.heap.size w wr ∧ ((at' = .int .i64 0 ∧ ov = .slice none 0 0) ∨ (at' = .int .i64 (m + 7 : Nat) ∧ ∃ ob oo oc xa xc, ov = .slice (some ⟨ob, oo, none⟩) 1 oc ∧ wr.cell? ⟨ob, oo, none⟩ = some (.slice xa m xc) ∧ ob < wr.heap.size ∧ 1 ≤ oc ∧ wr.ownsRow w.heap.size 5 1 (.slice xa m xc) m (cellsOf encB bs)))) (fun _ at' _ => 10000 - (RowKit.intOf at').toNat)
  case atStart => exact ⟨Below.refl _ _, .inl ⟨rfl, rfl⟩⟩
  case round =>
    obtain ⟨hBr, ⟨rfl, rfl⟩ | ⟨rfl, ob, oo, oc, xa, xc, rfl, hcell, hob, hoc, hown⟩⟩ := hrel
    · have hbr : b < wr.heap.size := Nat.lt_of_lt_of_le hb hBr.size
      have HF := Lib.hid (first_frame b off d bs wr hbr (by rw [← HM.out]; exact h0) (by rw [← HM.out]; exact hm) (by rw [← HM.out]; exact hd) hd2 (fun j x hx => (hBr.cell (p := ⟨b, off + j, none⟩) hb).trans (HC.out j x hx)) hB)
      rw [← HM.out] at HF
      go_wp2_with fail
      refine HF.out.mono ?_
      rintro x w1 ⟨xa, xc, rfl, hown1, hB1⟩
      have hB01 := hBr.trans (hB1.mono hBr.size)
      have HO1 := Lib.hid hown1
      clear hown1 HF
      go_wp2_with (at_builtin; refine wpList_append_own_at _ rfl _ _ 70 rfl w1.heap.size 28 i0 (.slice none 0 0) 1 24 Tryd.underlying70 hi0 hz0 hz1 hz2 rfl (by decide) _ 0 [] rfl (World.ownsRow_nil _ _ _ _) ⟨w1.heap.size, 0, none⟩ 1 1 [.slice xa m xc] rfl ?qa1 ?qa2 ?qa3 ?qa4 ?qa5 ?qa6 ?_)
      case qa1 => rfl
      case qa2 => exact cell_one_new _ _ _
      case qa3 => intro u hu; simp at hu; subst hu; rfl
      case qa4 => decide
      case qa5 => decide
      case qa6 => simp
      intro v2 w2 hown2 hgrow2 hnil2 hat2
      have hB2 : Below w1.heap.size w1 w2 := ((Below.refl _ w1).alloc (Nat.le_refl _) _).grown hgrow2 (by simp) (by intro k hk; simp [Value.ownBlock] at hk)
      have hO12 : w2.ownsRow w.heap.size 5 1 (.slice xa m xc) m (cellsOf encB bs) := by
        have := ownsRow_upd HO1.out (Upd.of_below hB2 (fun _ => False)) (fun _ _ h => h)
        exact ownsRow_base this (fun g hg => Nat.le_trans hBr.size (this.lt g hg).1)
      obtain ⟨ob, oc, rfl, hob, hoc, hcell⟩ : ∃ ob oc, v2 = .slice (some ⟨ob, 0, none⟩) 1 oc ∧ ob < w2.heap.size ∧ 1 ≤ oc ∧ w2.cell? ⟨ob, 0, none⟩ = some (.slice xa m xc) := by
        rcases hown2.2 with ⟨rfl, h⟩ | ⟨g, cap, cur, rfl, hg, hcur, hnc, hcm, hsz, htake⟩
        · exact absurd h (by decide)
        · refine ⟨g, cap, rfl, lt_of_heap hcur, hnc, ?_⟩
          rw [blk_cell hcur, ← Array.getElem?_toList]
          have : (cur.toList.take (1 * 1))[0]? = some (.slice xa m xc) := by rw [htake]; rfl
          rwa [List.getElem?_take, if_pos (by decide)] at this
      have hB02 := hB01.trans (hB2.mono hB01.size)
      have HO12 := Lib.hid hO12
      clear hown2 hgrow2 hnil2 hat2 hO12 HO1
      go_wp2_with fail
      refine ⟨⟨hB02, .inr ⟨by simp, ob, 0, oc, xa, xc, rfl, hcell, hob, hoc, HO12.out⟩⟩, by simp [RowKit.intOf]; omega⟩
    · obtain ⟨q, hq⟩ : ∃ q, q = m + 7 := ⟨_, rfl⟩
      rw [← hq] at hd ⊢
      have hqd : (q : Int) ≤ (d : Int) := by omega
      have HQ := Lib.hid hq
      have HN := Lib.hid first_none
      have HR := Lib.hid (show ∃ ob oo oc xa xc, (Value.slice (some ⟨ob, oo, none⟩) 1 oc : Value) = .slice (some ⟨ob, oo, none⟩) 1 oc ∧ wr.cell? ⟨ob, oo, none⟩ = some (.slice xa m xc) ∧ 1 ≤ oc ∧ wr.ownsRow w.heap.size 5 1 (.slice xa m xc) m (cellsOf encB bs) from ⟨ob, oo, oc, xa, xc, rfl, hcell, hoc, hown⟩)
      have HC1 := Lib.hid hcell
      have HC2 := Lib.hid hown
      clear hq hcell hown
      by_cases hdq : d = q
      · have hdq' : (d : Int) = (q : Int) := by omega
        go_wp2_with fail
        refine (first_none _ _ _).mono ?_
        rintro x w1 ⟨rfl, rfl⟩
        go_wp2_with fail
        rw [Exit.noGoto_ret]
        go_ret2
        exact ⟨ob, oo, oc, xa, xc, (by rw [← HQ.out]; rfl), HC1.out, hoc, HC2.out, hBr⟩
      · go_wp2_with fail
        refine (first_none _ _ _).mono ?_
        rintro x w1 ⟨rfl, rfl⟩
        go_wp2_with fail
        rw [Exit.noGoto_ret]
        go_ret2
        exact ⟨ob, oo, oc, xa, xc, (by rw [← HQ.out]; rfl), HC1.out, hoc, HC2.out, hBr⟩
set_option maxHeartbeats 1000000 in
theorem records22 (b off d : Nat) (bs : List Int) (s r : Int) (w : World) (hb : b < w.heap.size) (h0 : 0 < bs.length) (hm : bs.length ≤ 4000) (hd : bs.length + 7 ≤ d) (hd2 : (d : Int) ≤ 9223372036854775807)
    (hc : ∀ j x, (frameOf bs)[j]? = some x → w.cell? ⟨b, off + j, none⟩ = some (.int .u8 x)) (hB : Byts bs) :
    Calls Tryd.prog 22 #[.agg #[.slice (some ⟨b, off, none⟩) (bs.length + 7) d, .int .i64 s, .int .i64 r]] w fun x w' => ∃ ob oo oc xa xc, x = .returned (.tuple #[.slice (some ⟨ob, oo, none⟩) 1 oc, .int .i64 (bs.length + 7 : Nat)]) ∧ w'.cell? ⟨ob, oo, none⟩ = some (.slice xa bs.length xc) ∧ 1 ≤ oc ∧
      w'.ownsRow w.heap.size 5 1 (.slice xa bs.length xc) bs.length (cellsOf encB bs) ∧ Below w.heap.size w w' := by
  obtain ⟨w2, hw2⟩ : ∃ w2, w.alloc (.cells #[.slice (some ⟨b, off, none⟩) (bs.length + 7) d, .int .i64 s, .int .i64 r] 67) = w2 := ⟨_, rfl⟩
  have hB2 : Below w.heap.size w w2 := by rw [← hw2]; exact (Below.refl _ w).alloc (Nat.le_refl _) _
  have hb1 : DB w2 w.heap.size (.slice (some ⟨b, off, none⟩) (bs.length + 7) d) s r := by rw [← hw2]; exact World.alloc_heap_new w _
  have HA := Lib.hid (all47 b off d bs w2 (Nat.lt_of_lt_of_le hb hB2.size) h0 hm hd hd2 (fun j x hx => (hB2.cell (p := ⟨b, off + j, none⟩) hb).trans (hc j x hx)) hB)
  have HW2 := Lib.hid hw2
  obtain ⟨m, hmm⟩ : ∃ m, m = bs.length := ⟨_, rfl⟩
  rw [← hmm] at HA HW2 hb1 ⊢
  obtain ⟨x0, x1, x2, -⟩ := hb1.cells
  clear hw2 hc hb1 hmm
  go_enter Tryd.func22, Tryd.ntmps22
  go_upto_region 1 with fail
  rw [HW2.out]
  go_wp2_with fail
  refine HA.out.mono ?_
  rintro e w3 ⟨ob, oo, oc, xa, xc, rfl, hcell, hoc, hown, hB3⟩
  have HC1 := Lib.hid hcell
  have HO := Lib.hid hown
  clear hcell hown
  go_wp2_with fail
  go_ret2
  exact ⟨ob, oo, oc, xa, xc, rfl, HC1.out, hoc, ownsRow_base HO.out (fun g hg => Nat.le_trans hB2.size (HO.out.lt g hg).1), hB2.trans (hB3.mono hB2.size)⟩

end Go.Proofs.YtehgbpepaakanaaDoor
