/-
  note.Decode of the frame of a note that may be.
-/
import Derived.Test.YtehgbpepaakanaaDoorEe
import Derived.Test.YtehgbpepaakanaaDoorEh
import Derived.Deep.CutRange
namespace Go.Proofs.YtehgbpepaakanaaDoor
open Go.RowKit Go.Shelf
set_option linter.unusedVariables false
set_option linter.unusedSimpArgs false
set_option maxRecDepth 20000

attribute [local go_sem] Oper.semAt_some

set_option maxHeartbeats 8000000 in
/-- The frame of a note that may be. -/
theorem dec_good (b off d : Nat) (n : Nt) (w : World) (h : rightB n = true) (h8 : Ok8 n) (hb : b < w.heap.size) (hd : 25 + n.s.size ≤ d) (hd2 : (d : Int) ≤ 9223372036854775807)
    (hc : ∀ j x, (frameOf (noteB n))[j]? = some x → w.cell? ⟨b, off + j, none⟩ = some (.int .u8 x)) :
    Calls Tryd.prog 13 #[.slice (some ⟨b, off, none⟩) (25 + n.s.size) d] w fun x w' => x = .returned (.tuple #[NV n, .int .i64 0]) ∧ Below w.heap.size w w' := by
  obtain ⟨w2, hw2⟩ : ∃ w2, w.alloc (.cells (NC N0) 25) = w2 := ⟨_, rfl⟩
  have hB2 : Below w.heap.size w w2 := by rw [← hw2]; exact (Below.refl _ w).alloc (Nat.le_refl _) _
  have hb2 : w2.heap[w.heap.size]? = some (.cells (NC N0) 25 (0, 0)) := by rw [← hw2]; exact World.alloc_heap_new w _
  have hrg := right_range n h h8
  have hnl := noteB_len n
  have hs5 : n.s.size ≤ 500 := hrg.2.2.2.2.2.2.2.2.2
  have hF := first_frame b off d (noteB n) w2 (Nat.lt_of_lt_of_le hb hB2.size) (by omega) (by omega) (by omega) hd2 (fun j x hx => (hB2.cell (p := ⟨b, off + j, none⟩) hb).trans (hc j x hx)) (noteB_byts n)
  rw [hnl, show 18 + n.s.size + 7 = 25 + n.s.size by omega] at hF
  have HF := Lib.hid hF
  have HRT := Lib.hid (fun w => right_is n w)
  rw [h] at HRT
  have hfit := Lib.hid (note_fits n h h8)
  have H2 := Lib.hid hb2
  have HW2 := Lib.hid hw2
  have HNL := Lib.hid hnl
  have hl2 := lt_of_heap hb2
  have HRG := Lib.hid hrg
  clear hF hc hb2 hw2 hnl h h8 hrg
  obtain ⟨k, mob, tx, ep, v, ki, fr, tt, me, s⟩ := n
  simp only at hs5 HF hd
  simp only [NV, NC, N0] at HW2 HRT ⊢
  go_enter Tryd.func13, Tryd.ntmps13
  go_upto_region 1 with fail
  rw [HW2.out]
  go_upto_region 4 with (go_at_call 36; refine HF.out.mono ?_; rintro x w3 ⟨a3, c3, rfl, hown3, hB3⟩)
  obtain ⟨b3, o3, rfl, hb3, hc3, hc3b, hr3⟩ := own_read hown3 HNL.out (by omega)
  have hb23 := (hB3.block _ hl2).trans H2.out
  have hBR3 : BR w3 (some ⟨b3, o3, none⟩) (18 + s.size) c3 (noteB ⟨k, mob, tx, ep, v, ki, fr, tt, me, s⟩) := .inr ⟨b3, o3, rfl, hb3, HNL.out, hc3, hc3b, hr3⟩
  have hDec := decode_is shapeN ⟨#[97, 97, 98, 99, 97, 97, 97, 97, 99, 116]⟩ (valsN ⟨k, mob, tx, ep, v, ki, fr, tt, me, s⟩) (some ⟨b3, o3, none⟩) (18 + s.size) c3 w3 (by decide) (by decide) rfl hBR3 rfl hfit.out (by have := HNL.out; unfold noteB at this; rw [this]; show 18 + s.size ≤ 4000; omega)
  rw [valsN_len] at hDec
  have HD := Lib.hid hDec
  have HB3 := Lib.hid (hB2.trans (hB3.mono hB2.size))
  have H3 := Lib.hid hb23
  have hl3 := lt_of_heap hb23
  clear hown3 hr3 hB3 hb23 hBR3 hDec
  go_upto_region 5 with (go_at_call 37; refine HD.out.mono ?_; rintro x w4 ⟨a4, c4, rfl, hown4, hB4⟩)
  obtain ⟨g, rfl, hc4, hg, hgB, hv⟩ := vals_read hown4 (valsN_len _)
  obtain ⟨w5, hw5⟩ : ∃ w5, w4.alloc (.cells #[.slice (some ⟨g, 0, none⟩) 10 c4] 79) = w5 := ⟨_, rfl⟩
  have hB45 : Below w4.heap.size w4 w5 := by rw [← hw5]; exact (Below.refl _ w4).alloc (Nat.le_refl _) _
  have hbx5 : w5.heap[w4.heap.size]? = some (.cells #[.slice (some ⟨g, 0, none⟩) 10 c4] 79 (0, 0)) := by rw [← hw5]; exact World.alloc_heap_new w4 _
  have bx : w5.cell? ⟨w4.heap.size, 0, none⟩ = some (.slice (some ⟨g, 0, none⟩) 10 c4) := (blk_cell hbx5 0).trans rfl
  have hz5 : w5.heap.size = w4.heap.size + 1 := by rw [← hw5]; simp
  have H5 := Lib.hid ((hB45.block _ (Nat.lt_of_lt_of_le hl3 hB4.size)).trans ((hB4.block _ hl3).trans H3.out))
  have HB5 := Lib.hid ((HB3.out.trans (hB4.mono HB3.out.size)).trans (hB45.mono (Nat.le_trans HB3.out.size hB4.size)))
  obtain ⟨⟨q0, q0'⟩, ⟨q1, q1'⟩, ⟨q2, q2'⟩, ⟨q3, q3'⟩, ⟨q4, q4'⟩, ⟨q5, q5'⟩, ⟨q6, q6'⟩, ⟨q7, q7'⟩, ⟨q8, q8'⟩, -⟩ := HRG.out
  have d0 : w5.cell? ⟨g, 0 * 2, none⟩ = some (.int .u64 k) := by
    have := (hB45.cell (p := ⟨g, 0 * 2, none⟩) hg).trans (hv 0 (numV k) rfl).1
    rw [this]; congr 2; show ((k.toNat : Nat) : Int) = k; omega
  have d1 : w5.cell? ⟨g, 1 * 2, none⟩ = some (.int .u64 mob) := by
    have := (hB45.cell (p := ⟨g, 1 * 2, none⟩) hg).trans (hv 1 (numV mob) rfl).1
    rw [this]; congr 2; show ((mob.toNat : Nat) : Int) = mob; omega
  have d2 : w5.cell? ⟨g, 2 * 2, none⟩ = some (.int .u64 tx) := by
    have := (hB45.cell (p := ⟨g, 2 * 2, none⟩) hg).trans (hv 2 (numV tx) rfl).1
    rw [this]; congr 2; show ((tx.toNat : Nat) : Int) = tx; omega
  have d3 : w5.cell? ⟨g, 3 * 2, none⟩ = some (.int .u64 ep) := by
    have := (hB45.cell (p := ⟨g, 3 * 2, none⟩) hg).trans (hv 3 (numV ep) rfl).1
    rw [this]; congr 2; show ((ep.toNat : Nat) : Int) = ep; omega
  have d4 : w5.cell? ⟨g, 4 * 2, none⟩ = some (.int .u64 v) := by
    have := (hB45.cell (p := ⟨g, 4 * 2, none⟩) hg).trans (hv 4 (numV v) rfl).1
    rw [this]; congr 2; show ((v.toNat : Nat) : Int) = v; omega
  have d5 : w5.cell? ⟨g, 5 * 2, none⟩ = some (.int .u64 ki) := by
    have := (hB45.cell (p := ⟨g, 5 * 2, none⟩) hg).trans (hv 5 (numV ki) rfl).1
    rw [this]; congr 2; show ((ki.toNat : Nat) : Int) = ki; omega
  have d6 : w5.cell? ⟨g, 6 * 2, none⟩ = some (.int .u64 fr) := by
    have := (hB45.cell (p := ⟨g, 6 * 2, none⟩) hg).trans (hv 6 (numV fr) rfl).1
    rw [this]; congr 2; show ((fr.toNat : Nat) : Int) = fr; omega
  have d7 : w5.cell? ⟨g, 7 * 2, none⟩ = some (.int .u64 tt) := by
    have := (hB45.cell (p := ⟨g, 7 * 2, none⟩) hg).trans (hv 7 (numV tt) rfl).1
    rw [this]; congr 2; show ((tt.toNat : Nat) : Int) = tt; omega
  have d8 : w5.cell? ⟨g, 8 * 2, none⟩ = some (.int .u64 me) := by
    have := (hB45.cell (p := ⟨g, 8 * 2, none⟩) hg).trans (hv 8 (numV me) rfl).1
    rw [this]; congr 2; show ((me.toNat : Nat) : Int) = me; omega
  have d9 : w5.cell? ⟨g, 9 * 2 + 1, none⟩ = some (.string s) := (hB45.cell (p := ⟨g, 9 * 2 + 1, none⟩) hg).trans (hv 9 ⟨0, s⟩ rfl).2
  have HN : Hid (∀ (i : Int) (w' : World), 0 ≤ i ∧ i < 9 → Upd (fun _ => False) w5 w' → Calls Tryd.prog 38 #[.int .i64 i, .pointer (some ⟨w4.heap.size, 0, none⟩)] w' fun e w'' => e = .returned (.int .i64 ([k, mob, tx, ep, v, ki, fr, tt, me].getD i.toNat 0)) ∧ w'' = w') := by
    intro i w' hi hu
    obtain ⟨q, rfl⟩ := Int.eq_ofNat_of_zero_le hi.1
    have hq : q < 9 := by omega
    have hq' : ((q : Int)).toNat = q := by omega
    rw [hq']
    have hxx : w5.cell? ⟨g, q * 2, none⟩ = some (.int .u64 ([k, mob, tx, ep, v, ki, fr, tt, me].getD q 0)) ∧ 0 ≤ [k, mob, tx, ep, v, ki, fr, tt, me].getD q 0 ∧ [k, mob, tx, ep, v, ki, fr, tt, me].getD q 0 < 4294967296 := by
      rcases q with _ | _ | _ | _ | _ | _ | _ | _ | _ | q
      all_goals first
        | exact ⟨d0, by simp only [List.getD_cons_zero]; omega⟩
        | exact ⟨d1, by simp only [List.getD_cons_zero, List.getD_cons_succ]; omega⟩
        | exact ⟨d2, by simp only [List.getD_cons_zero, List.getD_cons_succ]; omega⟩
        | exact ⟨d3, by simp only [List.getD_cons_zero, List.getD_cons_succ]; omega⟩
        | exact ⟨d4, by simp only [List.getD_cons_zero, List.getD_cons_succ]; omega⟩
        | exact ⟨d5, by simp only [List.getD_cons_zero, List.getD_cons_succ]; omega⟩
        | exact ⟨d6, by simp only [List.getD_cons_zero, List.getD_cons_succ]; omega⟩
        | exact ⟨d7, by simp only [List.getD_cons_zero, List.getD_cons_succ]; omega⟩
        | exact ⟨d8, by simp only [List.getD_cons_zero, List.getD_cons_succ]; omega⟩
        | omega
    exact num_is w4.heap.size g 0 c4 q _ w' (by omega) hc4 (hu.cell bx (fun h => h)) (by have := hu.cell hxx.1 (fun h => h); rwa [Nat.zero_add]) hxx.2.1 hxx.2.2
  simp only [Nat.reduceMul, Nat.reduceAdd] at d0 d1 d2 d3 d4 d5 d6 d7 d8 d9
  have hc4' : (9 : Int) < (c4 : Int) := by omega
  have HB4 := Lib.hid hB4
  have HW5 := Lib.hid hw5
  have wm1 : IntKind.u8.wrap mob = mob := by rw [IntKind.wrap_u8]; omega
  have wm2 : IntKind.u8.wrap fr = fr := by rw [IntKind.wrap_u8]; omega
  have wm3 : IntKind.u8.wrap tt = tt := by rw [IntKind.wrap_u8]; omega
  have hgw : ¬ g = w5.heap.size := by have := hB45.size; omega
  clear hown4 hB4 hv hbx5 hw5
  rw [HW5.out]
  clear d0 d1 d2 d3 d4 d5 d6 d7 d8
  go_upto_region 8 with fail
  go_cut [9] from 34 to 60 (fun p9 wx => p9 = .pointer (some ⟨w5.heap.size, 0, none⟩) ∧ wx = (w5.alloc (.cells #[.int .i64 k, .int .u8 mob, .int .i64 tx, .int .i64 ep, .int .i64 v, .int .i64 ki, .int .u8 fr, .int .u8 tt, .int .i64 me, .string s] 25)).drew)
  case first =>
      refine wp_region_held_drew (S := fun w' => Upd (fun _ => False) w5 w') (by kernel_rfl) ((Upd.refl _ _).drew) (fun hHeld => ?_)
      refine From.start ?_
      refine From.take (v := ?v1) (by kernel_rfl) (by kernel_rfl) (by kernel_rfl) (fun _ _ _ h => h) hHeld ⟨by rfl, fun wq hq => Or.inl ?hy1⟩ ?re1
      case hy1 => go_simp; try with_reducible rfl
      simp only [Act.put, List.setIfInBounds_toArray, List.set_cons_zero, List.set_cons_succ]
      refine From.take (v := .int .i64 k) (by kernel_rfl) (by kernel_rfl) (by kernel_rfl) (fun _ _ _ h => h) hHeld ⟨by rfl, fun wq hq => Or.inr ⟨38, #[.int .i64 0, .pointer (some ⟨w4.heap.size, 0, none⟩)], by go_simp, HN.out 0 wq (by decide) hq⟩⟩ ?_
      simp only [Act.put, List.setIfInBounds_toArray, List.set_cons_zero, List.set_cons_succ]
      refine From.take (v := ?v2) (by kernel_rfl) (by kernel_rfl) (by kernel_rfl) (fun _ _ _ h => h) hHeld ⟨by rfl, fun wq hq => Or.inl ?hy2⟩ ?re2
      case hy2 => go_simp; try with_reducible rfl
      simp only [Act.put, List.setIfInBounds_toArray, List.set_cons_zero, List.set_cons_succ]
      refine From.take (v := .int .i64 mob) (by kernel_rfl) (by kernel_rfl) (by kernel_rfl) (fun _ _ _ h => h) hHeld ⟨by rfl, fun wq hq => Or.inr ⟨38, #[.int .i64 1, .pointer (some ⟨w4.heap.size, 0, none⟩)], by go_simp, HN.out 1 wq (by decide) hq⟩⟩ ?_
      simp only [Act.put, List.setIfInBounds_toArray, List.set_cons_zero, List.set_cons_succ]
      refine From.take (v := ?v3) (by kernel_rfl) (by kernel_rfl) (by kernel_rfl) (fun _ _ _ h => h) hHeld ⟨by rfl, fun wq hq => Or.inl ?hy3⟩ ?re3
      case hy3 => go_simp; try with_reducible rfl
      simp only [Act.put, List.setIfInBounds_toArray, List.set_cons_zero, List.set_cons_succ]
      refine From.take (v := ?v4) (by kernel_rfl) (by kernel_rfl) (by kernel_rfl) (fun _ _ _ h => h) hHeld ⟨by rfl, fun wq hq => Or.inl ?hy4⟩ ?re4
      case hy4 => go_simp; try with_reducible rfl
      simp only [Act.put, List.setIfInBounds_toArray, List.set_cons_zero, List.set_cons_succ]
      refine From.take (v := .int .i64 tx) (by kernel_rfl) (by kernel_rfl) (by kernel_rfl) (fun _ _ _ h => h) hHeld ⟨by rfl, fun wq hq => Or.inr ⟨38, #[.int .i64 2, .pointer (some ⟨w4.heap.size, 0, none⟩)], by go_simp, HN.out 2 wq (by decide) hq⟩⟩ ?_
      simp only [Act.put, List.setIfInBounds_toArray, List.set_cons_zero, List.set_cons_succ]
      refine From.take (v := ?v5) (by kernel_rfl) (by kernel_rfl) (by kernel_rfl) (fun _ _ _ h => h) hHeld ⟨by rfl, fun wq hq => Or.inl ?hy5⟩ ?re5
      case hy5 => go_simp; try with_reducible rfl
      simp only [Act.put, List.setIfInBounds_toArray, List.set_cons_zero, List.set_cons_succ]
      refine From.take (v := .int .i64 ep) (by kernel_rfl) (by kernel_rfl) (by kernel_rfl) (fun _ _ _ h => h) hHeld ⟨by rfl, fun wq hq => Or.inr ⟨38, #[.int .i64 3, .pointer (some ⟨w4.heap.size, 0, none⟩)], by go_simp, HN.out 3 wq (by decide) hq⟩⟩ ?_
      simp only [Act.put, List.setIfInBounds_toArray, List.set_cons_zero, List.set_cons_succ]
      refine From.take (v := ?v6) (by kernel_rfl) (by kernel_rfl) (by kernel_rfl) (fun _ _ _ h => h) hHeld ⟨by rfl, fun wq hq => Or.inl ?hy6⟩ ?re6
      case hy6 => go_simp; try with_reducible rfl
      simp only [Act.put, List.setIfInBounds_toArray, List.set_cons_zero, List.set_cons_succ]
      refine From.take (v := .int .i64 v) (by kernel_rfl) (by kernel_rfl) (by kernel_rfl) (fun _ _ _ h => h) hHeld ⟨by rfl, fun wq hq => Or.inr ⟨38, #[.int .i64 4, .pointer (some ⟨w4.heap.size, 0, none⟩)], by go_simp, HN.out 4 wq (by decide) hq⟩⟩ ?_
      simp only [Act.put, List.setIfInBounds_toArray, List.set_cons_zero, List.set_cons_succ]
      refine From.take (v := ?v7) (by kernel_rfl) (by kernel_rfl) (by kernel_rfl) (fun _ _ _ h => h) hHeld ⟨by rfl, fun wq hq => Or.inl ?hy7⟩ ?re7
      case hy7 => go_simp; try with_reducible rfl
      simp only [Act.put, List.setIfInBounds_toArray, List.set_cons_zero, List.set_cons_succ]
      refine From.take (v := .int .i64 ki) (by kernel_rfl) (by kernel_rfl) (by kernel_rfl) (fun _ _ _ h => h) hHeld ⟨by rfl, fun wq hq => Or.inr ⟨38, #[.int .i64 5, .pointer (some ⟨w4.heap.size, 0, none⟩)], by go_simp, HN.out 5 wq (by decide) hq⟩⟩ ?_
      simp only [Act.put, List.setIfInBounds_toArray, List.set_cons_zero, List.set_cons_succ]
      refine From.take (v := ?v8) (by kernel_rfl) (by kernel_rfl) (by kernel_rfl) (fun _ _ _ h => h) hHeld ⟨by rfl, fun wq hq => Or.inl ?hy8⟩ ?re8
      case hy8 => go_simp; try with_reducible rfl
      simp only [Act.put, List.setIfInBounds_toArray, List.set_cons_zero, List.set_cons_succ]
      refine From.take (v := .int .i64 fr) (by kernel_rfl) (by kernel_rfl) (by kernel_rfl) (fun _ _ _ h => h) hHeld ⟨by rfl, fun wq hq => Or.inr ⟨38, #[.int .i64 6, .pointer (some ⟨w4.heap.size, 0, none⟩)], by go_simp, HN.out 6 wq (by decide) hq⟩⟩ ?_
      simp only [Act.put, List.setIfInBounds_toArray, List.set_cons_zero, List.set_cons_succ]
      refine From.take (v := ?v9) (by kernel_rfl) (by kernel_rfl) (by kernel_rfl) (fun _ _ _ h => h) hHeld ⟨by rfl, fun wq hq => Or.inl ?hy9⟩ ?re9
      case hy9 => go_simp; try with_reducible rfl
      simp only [Act.put, List.setIfInBounds_toArray, List.set_cons_zero, List.set_cons_succ]
      refine From.take (v := ?v10) (by kernel_rfl) (by kernel_rfl) (by kernel_rfl) (fun _ _ _ h => h) hHeld ⟨by rfl, fun wq hq => Or.inl ?hy10⟩ ?re10
      case hy10 => go_simp; try with_reducible rfl
      simp only [Act.put, List.setIfInBounds_toArray, List.set_cons_zero, List.set_cons_succ]
      refine From.take (v := .int .i64 tt) (by kernel_rfl) (by kernel_rfl) (by kernel_rfl) (fun _ _ _ h => h) hHeld ⟨by rfl, fun wq hq => Or.inr ⟨38, #[.int .i64 7, .pointer (some ⟨w4.heap.size, 0, none⟩)], by go_simp, HN.out 7 wq (by decide) hq⟩⟩ ?_
      simp only [Act.put, List.setIfInBounds_toArray, List.set_cons_zero, List.set_cons_succ]
      refine From.take (v := ?v11) (by kernel_rfl) (by kernel_rfl) (by kernel_rfl) (fun _ _ _ h => h) hHeld ⟨by rfl, fun wq hq => Or.inl ?hy11⟩ ?re11
      case hy11 => go_simp; try with_reducible rfl
      simp only [Act.put, List.setIfInBounds_toArray, List.set_cons_zero, List.set_cons_succ]
      refine From.take (v := ?v12) (by kernel_rfl) (by kernel_rfl) (by kernel_rfl) (fun _ _ _ h => h) hHeld ⟨by rfl, fun wq hq => Or.inl ?hy12⟩ ?re12
      case hy12 => go_simp; try with_reducible rfl
      simp only [Act.put, List.setIfInBounds_toArray, List.set_cons_zero, List.set_cons_succ]
      refine From.take (v := .int .i64 me) (by kernel_rfl) (by kernel_rfl) (by kernel_rfl) (fun _ _ _ h => h) hHeld ⟨by rfl, fun wq hq => Or.inr ⟨38, #[.int .i64 8, .pointer (some ⟨w4.heap.size, 0, none⟩)], by go_simp, HN.out 8 wq (by decide) hq⟩⟩ ?_
      simp only [Act.put, List.setIfInBounds_toArray, List.set_cons_zero, List.set_cons_succ]
      refine From.take (v := ?v13) (by kernel_rfl) (by kernel_rfl) (by kernel_rfl) (fun _ _ _ h => h) hHeld ⟨by rfl, fun wq hq => Or.inl ?hy13⟩ ?re13
      case hy13 => have y0 := hq.cell bx (fun h => h); have y1 := hq.cell d9 (fun h => h); go_simp; try rfl
      simp only [Act.put, List.setIfInBounds_toArray, List.set_cons_zero, List.set_cons_succ]
      refine From.take (v := ?v14) (by kernel_rfl) (by kernel_rfl) (by kernel_rfl) (fun _ _ _ h => h) hHeld ⟨by rfl, fun wq hq => Or.inl ?hy14⟩ ?re14
      case hy14 => go_simp; try with_reducible rfl
      simp only [Act.put, List.setIfInBounds_toArray, List.set_cons_zero, List.set_cons_succ]
      refine From.take (v := ?v15) (by kernel_rfl) (by kernel_rfl) (by kernel_rfl) (fun _ _ _ h => h) hHeld ⟨by rfl, fun wq hq => Or.inl ?hy15⟩ ?re15
      case hy15 => go_simp; try with_reducible rfl
      simp only [Act.put, List.setIfInBounds_toArray, List.set_cons_zero, List.set_cons_succ]
      refine From.take (v := ?v16) (by kernel_rfl) (by kernel_rfl) (by kernel_rfl) (fun _ _ _ h => h) hHeld ⟨by rfl, fun wq hq => Or.inl ?hy16⟩ ?re16
      case hy16 => have y0 := hq.cell bx (fun h => h); have y1 := hq.cell d9 (fun h => h); go_simp; try rfl
      simp only [Act.put, List.setIfInBounds_toArray, List.set_cons_zero, List.set_cons_succ]
      refine From.take (v := ?v17) (by kernel_rfl) (by kernel_rfl) (by kernel_rfl) (fun _ _ _ h => h) hHeld ⟨by rfl, fun wq hq => Or.inl ?hy17⟩ ?re17
      case hy17 => go_simp; try with_reducible rfl
      simp only [Act.put, List.setIfInBounds_toArray, List.set_cons_zero, List.set_cons_succ]
      refine From.take (v := ?v18) (by kernel_rfl) (by kernel_rfl) (by kernel_rfl) (fun _ _ _ h => h) hHeld ⟨by rfl, fun wq hq => Or.inl ?hy18⟩ ?re18
      case hy18 => go_simp; try with_reducible rfl
      simp only [Act.put, List.setIfInBounds_toArray, List.set_cons_zero, List.set_cons_succ]
      refine From.only (by kernel_rfl) (fun K hK => ?_)
      go_simp
      refine hK.out _ _ (Upd.alloc hHeld _) (fun hHeld => ?_)
      clear hK K
      try simp only [Act.put, List.setIfInBounds_toArray, List.set_cons_zero, List.set_cons_succ]
      refine From.only (by kernel_rfl) (fun K hK => ?_)
      go_simp
      refine hK.out _ _ (by first | exact ((Upd.refl _ _).alloc _).drew | exact ((Upd.refl _ _).drew).alloc _) (fun hHeld => ?_)
      clear hK K
      try simp only [Act.put, List.setIfInBounds_toArray, List.set_cons_zero, List.set_cons_succ]
      refine From.done (by kernel_rfl) ?_
      go_wp2_with fail
      go_meet
      exact ⟨by rw [hz5], rfl⟩
  case rest =>
    obtain ⟨rfl, rfl⟩ := hcut
    obtain ⟨w6, hw6⟩ : ∃ w6, (w5.alloc (.cells #[.int .i64 k, .int .u8 mob, .int .i64 tx, .int .i64 ep, .int .i64 v, .int .i64 ki, .int .u8 fr, .int .u8 tt, .int .i64 me, .string s] 25)).drew = w6 := ⟨_, rfl⟩
    have hB56 : Below w5.heap.size w5 w6 := by
      have h := (Below.refl _ w5).alloc (Nat.le_refl _) (.cells #[.int .i64 k, .int .u8 mob, .int .i64 tx, .int .i64 ep, .int .i64 v, .int .i64 ki, .int .u8 fr, .int .u8 tt, .int .i64 me, .string s] 25)
      rw [← hw6]; exact ⟨h.os, h.tape, h.output, h.size, h.block⟩
    have hb6 : w6.heap[w5.heap.size]? = some (.cells (NC ⟨k, mob, tx, ep, v, ki, fr, tt, me, s⟩) 25 (0, 0)) := by rw [← hw6]; exact World.alloc_heap_new w5 _
    have l5 := lt_of_heap H5.out
    rw [hz5] at hb6
    have hr6 := (hB56.block _ l5).trans H5.out
    have HB6 := Lib.hid (HB5.out.trans (hB56.mono HB5.out.size))
    have H6 := Lib.hid hb6
    have HR6 := Lib.hid hr6
    have l6 := lt_of_heap hb6
    have l6' := lt_of_heap hr6
    obtain ⟨y0, y1, y2, y3, y4, y5, y6, y7, y8, y9⟩ := note_cellsX hb6
    rw [hw6]
    clear hw6 hb6 hr6 hB56
    go_wp2_with fail
    refine (HRT.out _).mono ?_
    rintro x w7 ⟨rfl, hB7⟩
    clear y0 y1 y2 y3 y4 y5 y6 y7 y8 y9
    have hb7 := (hB7.block _ l6).trans H6.out
    have hr7 := (hB7.block _ l6').trans HR6.out
    obtain ⟨y0, y1, y2, y3, y4, y5, y6, y7, y8, y9⟩ := note_cellsX hb7
    obtain ⟨z0, z1, z2, z3, z4, z5, z6, z7, z8, z9⟩ := note_frozen hr7
    obtain ⟨v0, v1, v2, v3, v4, v5, v6, v7, v8, v9⟩ := note_cellsX hr7
    have HB7 := Lib.hid (HB6.out.trans (hB7.mono HB6.out.size))
    have H7 := Lib.hid hr7
    clear hB7 hb7 hr7
    go_wp2_with fail
    obtain ⟨hs, hU⟩ := note_store H7.out rfl k mob tx ep v ki fr tt me s _ rfl
    obtain ⟨e0, e1, e2, e3, e4, e5, e6, e7, e8, e9⟩ := note_cellsX hs
    refine bodyPost_ret (v := .tuple #[.agg #[.int .i64 k, .int .u8 mob, .int .i64 tx, .int .i64 ep, .int .i64 v, .int .i64 ki, .int .u8 fr, .int .u8 tt, .int .i64 me, .string s], .int .i64 0]) (by simp [results, Tryd.results13, go_sem, e0, e1, e2, e3, e4, e5, e6, e7, e8, e9]) rfl ⟨rfl, ?_⟩
    exact HB7.out.trans (hU.below HB7.out.size (fun i hi h => by omega))
end Go.Proofs.YtehgbpepaakanaaDoor
