/-
  note.Encode of a note that may be.
-/
import Derived.Test.YtehgbpepaakanaaDoorEc
namespace Go.Proofs.YtehgbpepaakanaaDoor
open Go.RowKit Go.Shelf
set_option linter.unusedVariables false
set_option linter.unusedSimpArgs false
set_option maxRecDepth 20000

attribute [local go_sem] Oper.semAt_some

theorem index80 (w : World) (x0 x1 x2 x3 x4 x5 x6 x7 x8 : Int) (j : Nat) (hj : j < 9) : (Instr.index 80 (.agg #[.int .i64 x0, .int .i64 x1, .int .i64 x2, .int .i64 x3, .int .i64 x4, .int .i64 x5, .int .i64 x6, .int .i64 x7, .int .i64 x8]) (.int .i64 (j : Int))).run Tryd.prog w = .ok (.int .i64 ([x0, x1, x2, x3, x4, x5, x6, x7, x8].getD j 0)) w := by
  rcases j with _ | _ | _ | _ | _ | _ | _ | _ | _ | j
  all_goals first | rfl | omega

set_option maxHeartbeats 2000000 in
theorem enc_right (n : Nt) (h : rightB n = true) (h8 : Ok8 n) (w : World) : Calls Tryd.prog 6 #[NV n] w fun e w' => ∃ a' c', e = .returned (.tuple #[.slice a' (25 + n.s.size) c', .int .i64 0]) ∧ w'.ownsRow w.heap.size 5 1 (.slice a' (25 + n.s.size) c') (25 + n.s.size) (cellsOf encB (frameOf (noteB n))) ∧ Below w.heap.size w w' := by
  obtain ⟨i0, hi0, hz0, hz1, hz2⟩ := info_parts Tryd.infoV
  obtain ⟨w2, hw2⟩ : ∃ w2, w.alloc (.cells (NC n) 25) = w2 := ⟨_, rfl⟩
  have hB2 : Below w.heap.size w w2 := by rw [← hw2]; exact (Below.refl _ w).alloc (Nat.le_refl _) _
  have hb1 : w2.heap[w.heap.size]? = some (.cells (NC n) 25 (0, 0)) := by rw [← hw2]; exact World.alloc_heap_new w _
  have HR := Lib.hid (right_is n w2)
  rw [h] at HR
  have hfit := Lib.hid (note_fits n h h8)
  have hrange := right_range n h h8
  have hnl := noteB_len n
  have hnb := noteB_byts n
  have HB2 := Lib.hid hB2
  have Hb1 := Lib.hid hb1
  have c0 := blk_cell hb1 0
  have c1 := blk_cell hb1 1
  have c2 := blk_cell hb1 2
  have c3 := blk_cell hb1 3
  have c4 := blk_cell hb1 4
  have c5 := blk_cell hb1 5
  have c6 := blk_cell hb1 6
  have c7 := blk_cell hb1 7
  have c8 := blk_cell hb1 8
  have c9 := blk_cell hb1 9
  have HW2 := Lib.hid hw2
  have hl1 := lt_of_heap hb1
  have HNL := Lib.hid hnl
  have HNB := Lib.hid hnb
  have HRG := Lib.hid hrange
  clear hb1 hw2 hnl hnb h h8 hB2
  obtain ⟨k, mob, tx, ep, v, ki, fr, tt, me, s⟩ := n
  simp only at hrange
  obtain ⟨⟨a0, a0'⟩, ⟨a1, a1'⟩, ⟨a2, a2'⟩, ⟨a3, a3'⟩, ⟨a4, a4'⟩, ⟨a5, a5'⟩, ⟨a6, a6'⟩, ⟨a7, a7'⟩, ⟨a8, a8'⟩, a9⟩ := hrange
  obtain ⟨ns, hns⟩ : ∃ ns, ns = valsN ⟨k, mob, tx, ep, v, ki, fr, tt, me, s⟩ := ⟨_, rfl⟩
  have HNS := Lib.hid hns
  have hxs : Hid (∀ j, j < 9 → ns[j]? = some (numV ([k, mob, tx, ep, v, ki, fr, tt, me].getD j 0)) ∧ 0 ≤ [k, mob, tx, ep, v, ki, fr, tt, me].getD j 0 ∧ [k, mob, tx, ep, v, ki, fr, tt, me].getD j 0 < 4294967296) := by
    intro j hj
    rw [hns]
    rcases j with _ | _ | _ | _ | _ | _ | _ | _ | _ | j
    all_goals first
      | (refine ⟨rfl, ?_, ?_⟩ <;> simp only [List.getD_cons_zero, List.getD_cons_succ] <;> omega)
      | omega
  clear hns
  simp only [NV, NC] at HR HW2 c0 c1 c2 c3 c4 c5 c6 c7 c8 c9 ⊢
  simp at c0 c1 c2 c3 c4 c5 c6 c7 c8 c9
  go_enter Tryd.func6, Tryd.ntmps6
  go_upto_region 1 with fail
  rw [HW2.out]
  go_wp2_with fail
  refine HR.out.mono ?_
  rintro e w3 ⟨rfl, hB3⟩
  clear c0 c1 c2 c3 c4 c5 c6 c7 c8 c9
  have hb3 := (hB3.block _ hl1).trans Hb1.out
  have c0 := blk_cell hb3 0
  have c1 := blk_cell hb3 1
  have c2 := blk_cell hb3 2
  have c3 := blk_cell hb3 3
  have c4 := blk_cell hb3 4
  have c5 := blk_cell hb3 5
  have c6 := blk_cell hb3 6
  have c7 := blk_cell hb3 7
  have c8 := blk_cell hb3 8
  have c9 := blk_cell hb3 9
  simp [NC] at c0 c1 c2 c3 c4 c5 c6 c7 c8 c9
  have HB3 := Lib.hid (HB2.out.trans (hB3.mono HB2.out.size))
  have Hb3 := Lib.hid hb3
  have hl3 := lt_of_heap hb3
  clear hB3 hb3
  go_wp2_with fail
  go_loopw [4, 38] (fun lv ix wr => ∃ j : Nat, j ≤ 9 ∧ ix = .int .i64 j ∧ wr.ownsRow w3.heap.size 83 2 lv j (cellsOf encCV (ns.take j)) ∧ Below w3.heap.size w3 wr) (fun _ ix _ => 9 - (RowKit.intOf ix).toNat)
  case atStart => exact ⟨0, by omega, rfl, World.ownsRow_nil _ _ _ _, Below.refl _ _⟩
  case round =>
    obtain ⟨j, hj, rfl, hO, hB⟩ := hrel
    obtain ⟨a1', c1', rfl⟩ := vals_slice hO
    by_cases hlt : j < 9
    · obtain ⟨hx, hx0, hx1⟩ := hxs.out j hlt
      have hji : (j : Int) < 9 := by omega
      have hix := fun w => index80 w k mob tx ep v ki fr tt me j hlt
      obtain ⟨q, hq⟩ : ∃ q, q = [k, mob, tx, ep, v, ki, fr, tt, me].getD j 0 := ⟨_, rfl⟩
      rw [← hq] at hx hx0 hx1
      simp only [← hq] at hix
      have HX := Lib.hid hx
      have HO := Lib.hid hO
      have HB := Lib.hid hB
      have hwq : IntKind.u64.wrap q = q := by rw [IntKind.wrap_u64]; omega
      clear hq hx hO hB
      have HO4 := Lib.hid (ownsRow_upd HO.out ((Upd.refl (fun _ => False) wr).alloc (.cells #[.int .u64 q, .string ⟨#[]⟩] 83)) (fun _ _ h => h))
      have hzr := HB.out.size
      go_wp2_with (at_builtin; refine wpList_append_own_at _ rfl _ _ 79 rfl w3.heap.size 83 i0 (.agg #[.int .u64 0, .string ⟨#[]⟩]) 2 24 Tryd.underlying79 hi0 hz0 hz1 hz2 rfl (by decide) _ _ _ rfl HO4.out ⟨wr.heap.size, 0, none⟩ 1 1 [.int .u64 q, .string ⟨#[]⟩] rfl ?qa1 ?qa2 ?qa3 ?qa4 ?qa5 ?qa6 ?_)
      case qa1 => rfl
      case qa2 =>
        intro r u hu
        rw [Addr.add_lit, blk_cell (World.alloc_heap_new wr _), Nat.zero_add]
        rw [← List.getElem?_toArray] at hu
        exact hu
      case qa3 =>
        intro u hu
        simp only [List.mem_cons, List.not_mem_nil, or_false] at hu
        rcases hu with rfl | rfl <;> rfl
      case qa4 => unfold maxLen; omega
      case qa5 => omega
      case qa6 => simp; omega
      intro v5 w5 hown5 hgrow5 hnil5 hat5
      have hB5 : Below w3.heap.size w3 w5 := (HB.out.alloc hzr _).grown hgrow5 (by simp; omega) (fun k hk => (HO4.out.lt k hk).1)
      have hown6 : w5.ownsRow w3.heap.size 83 2 v5 (j + 1) (cellsOf encCV (ns.take (j + 1))) := by
        rw [List.take_add_one, HX.out, Option.toList_some, cellsOf_append, cellsOf_one]
        have e : encCV (numV q) = [.int .u64 q, .string ⟨#[]⟩] := by
          have : ((q.toNat : Nat) : Int) = q := Int.toNat_of_nonneg hx0
          simp only [encCV, numV, this]
        rw [e]
        exact hown5
      have HE := Lib.hid (And.intro hown6 hB5)
      clear hown5 hgrow5 hnil5 hat5 hB5 hown6
      go_wp2_with fail
      go_roundw
      case rel => exact ⟨j + 1, by omega, by go_num, HE.out.1, HE.out.2⟩
      case measure => simp [RowKit.intOf]; omega
    · obtain rfl : j = 9 := by omega
      have hzr := hB.size
      have hbr := (hB.block _ hl3).trans Hb3.out
      clear c0 c1 c2 c3 c4 c5 c6 c7 c8 c9
      have c9 := blk_cell hbr 9
      simp [NC] at c9
      have HO := Lib.hid (ownsRow_upd hO ((Upd.refl (fun _ => False) wr).alloc (.cells #[.int .u64 0, .string s] 83)) (fun _ _ h => h))
      have HB := Lib.hid hB
      clear hO hB hbr
      go_wp2_with (at_builtin; refine wpList_append_own_at _ rfl _ _ 79 rfl w3.heap.size 83 i0 (.agg #[.int .u64 0, .string ⟨#[]⟩]) 2 24 Tryd.underlying79 hi0 hz0 hz1 hz2 rfl (by decide) _ _ _ rfl HO.out ⟨wr.heap.size, 0, none⟩ 1 1 [.int .u64 0, .string s] rfl ?qb1 ?qb2 ?qb3 ?qb4 ?qb5 ?qb6 ?_)
      case qb1 => rfl
      case qb2 =>
        intro r u hu
        rw [Addr.add_lit, blk_cell (World.alloc_heap_new wr _), Nat.zero_add]
        rw [← List.getElem?_toArray] at hu
        exact hu
      case qb3 =>
        intro u hu
        simp only [List.mem_cons, List.not_mem_nil, or_false] at hu
        rcases hu with rfl | rfl <;> rfl
      case qb4 => decide
      case qb5 => decide
      case qb6 => simp; omega
      intro v5 w5 hown5 hgrow5 hnil5 hat5
      have hB5 : Below w3.heap.size w3 w5 := (HB.out.alloc hzr _).grown hgrow5 (by simp; omega) (fun k hk => (HO.out.lt k hk).1)
      have hown6 : w5.ownsRow w3.heap.size 83 2 v5 10 (cellsOf encCV ns) := by
        have e : ns = ns.take 9 ++ [(⟨0, s⟩ : CV)] := by rw [HNS.out]; rfl
        rw [e, cellsOf_append, cellsOf_one]
        exact hown5
      obtain ⟨a6, c6, rfl⟩ := vals_slice hown6
      have hlen10 : ns.length = 10 := by rw [HNS.out]; rfl
      have hB05 := HB3.out.trans (hB5.mono HB3.out.size)
      have hL : (encAll shapeN ns).length = 18 + s.size := by rw [HNS.out]; exact HNL.out
      have hbig : (encAll shapeN ns).length ≤ 4000 := by rw [hL]; omega
      have HE := Lib.hid (encode_is shapeN ⟨#[97, 97, 98, 99, 97, 97, 97, 97, 99, 116]⟩ ns a6 10 c6 w5 (by decide) (by decide) rfl (rv_of_own (by rw [← hlen10] at hown6; simpa [hlen10] using hown6)) hlen10 hlen10.symm (by rw [HNS.out]; exact hfit.out) hbig)
      have HB5 := Lib.hid hB05
      clear hown5 hgrow5 hnil5 hat5 hown6 hB5 hB05 hbig
      go_wp2_with fail
      refine HE.out.mono ?_
      rintro e w6 ⟨a7, c7, rfl, hown7, hB7⟩
      have hNB : encAll shapeN ns = noteB ⟨k, mob, tx, ep, v, ki, fr, tt, me, s⟩ := by rw [HNS.out]; rfl
      rw [hL] at hown7 ⊢
      rw [hNB] at hown7
      obtain ⟨b8, o8, rfl, hb8, hc8, hc8b, hr8⟩ := own_read hown7 HNL.out (by omega)
      have HF := Lib.hid (frame_is b8 o8 (18 + s.size) c7 (noteB ⟨k, mob, tx, ep, v, ki, fr, tt, me, s⟩) w6 hb8 HNL.out (by omega) hc8 hc8b hr8 HNB.out)
      have HB7 := Lib.hid (HB5.out.trans (hB7.mono HB5.out.size))
      have hq : 18 + s.size + 7 = 25 + s.size := by omega
      rw [hq] at HF
      clear hown7 hr8 hB7 hNB hL hq
      go_wp2_with fail
      refine HF.out.mono ?_
      rintro e w8 ⟨a8', c8', rfl, hown8, hB8⟩
      have HO8 := Lib.hid hown8
      have HB8 := Lib.hid hB8
      clear hown8 hB8
      go_wp2_with fail
      go_ret2
      exact ⟨a8', c8', rfl, ownsRow_base HO8.out (fun g hg => by have := (HO8.out.lt g hg).1; have := HB7.out.size; omega), HB7.out.trans (HB8.out.mono HB7.out.size)⟩
end Go.Proofs.YtehgbpepaakanaaDoor
