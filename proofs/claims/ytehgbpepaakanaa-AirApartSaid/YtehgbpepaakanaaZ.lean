/-
  The law of air: does, of a Take.
-/
import Derived.Test.YtehgbpepaakanaaY
namespace Go.Proofs.Ytehgbpepaakanaa
open Go.RowKit Go.Joins
set_option linter.unusedVariables false
set_option linter.unusedSimpArgs false

/-- A letter's value. -/
def letV (f t : Int) (a : Option Addr) (m d : Nat) : Value := .agg #[.int .u8 f, .int .u8 t, .slice a m d]

set_option maxHeartbeats 1000000 in
theorem does_take (A : Nat) (al : Option Addr) (nl cl : Nat) (room : Int) (k f t : Int) (a : Option Addr) (m d : Nat) (i pl z : Int) (w : World) (hk : k.tmod 6 = 3) (R : World → Value → Bool → World → Prop)
    (H : ∀ w1, Below w.heap.size w w1 → w.heap.size + 1 + 1 < w1.heap.size → Calls Try.prog 12 #[.pointer (some ⟨A, 0, none⟩), .int .u8 t, .int .i64 i] w1 fun e w2 => ∃ f1 t1 a1 m1 d1 kp, e = .returned (.tuple #[.agg #[.int .u8 f1, .int .u8 t1, .slice a1 m1 d1], .int .i64 kp]) ∧ Kept (Mid w w1) w1 w2 ∧
      ∀ w3, Below w2.heap.size w2 w3 → Calls Try.prog 27 #[.agg #[.slice al nl cl, .int .i64 room], .int .u8 t, .int .i64 i] w3 fun e w4 => ∃ a' n' c' f2 t2 a2 m2 d2 kr, e = .returned (.tuple #[.agg #[.slice a' n' c', .int .i64 room], .agg #[.int .u8 f2, .int .u8 t2, .slice a2 m2 d2], .int .i64 kr]) ∧ Below w3.heap.size w3 w4 ∧
        ∃ s, ∀ w5, Below w4.heap.size w4 w5 → Calls Try.prog 17 #[.agg #[.int .u8 f1, .int .u8 t1, .slice a1 m1 d1], .agg #[.int .u8 f2, .int .u8 t2, .slice a2 m2 d2]] w5 fun e w6 => e = .returned (.bool s) ∧ Below w5.heap.size w5 w6 ∧ R w1 (.slice a' n' c') (s && (kp == kr)) w6) :
    Calls Try.prog 15 #[.pointer (some ⟨A, 0, none⟩), .agg #[.slice al nl cl, .int .i64 room], actV k f t a m d i pl z] w fun e w' => ∃ a' n' c' r w1 w6, e = .returned (.tuple #[.agg #[.slice a' n' c', .int .i64 room], .bool r]) ∧ w.heap.size + 1 + 1 < w1.heap.size ∧ R w1 (.slice a' n' c') r w6 ∧ Upd (fun q => q = w.heap.size + 1 + 1) w6 w' := by
  obtain ⟨w1, hw1, b1, b2, b3, hB, hs1⟩ := act_boxes (.slice al nl cl) room k f t a m d i pl z w
  have HH := Lib.hid (H w1 hB (by omega))
  have y0 := blk_cell b2 0
  have y2 := blk_cell b2 2
  have y4 := blk_cell b2 4
  simp at y0 y2 y4
  have HW := Lib.hid hw1
  have B1 := Lib.hid b1
  have B2 := Lib.hid b2
  have B3 := Lib.hid b3
  have HS1 := Lib.hid hs1
  have k3 : (k.tmod 6 == 3) = true := by rw [hk]; rfl
  clear H b1 b2 b3 hw1 hs1 hk
  unfold actV
  go_enter Try.func15, Try.ntmps15
  go_upto_region 2 with fail
  rw [HW.out]
  go_wp2_with fail
  refine HH.out.mono ?_
  rintro e w2 ⟨f1, t1, a1, m1, d1, kp, rfl, hK2, H2⟩
  obtain ⟨w3, hw3, b4, hB3⟩ := let_box f1 t1 a1 m1 d1 w2
  have hs1 := HS1.out
  have m1' : w.heap.size < w1.heap.size := lt_of_heap B1.out
  have c1 := hK2.heap B1.out ⟨by omega, by omega⟩
  have c2 := hK2.heap B2.out ⟨by omega, by omega⟩
  have c3 := hK2.heap B3.out ⟨by omega, by omega⟩
  have d1' := (hB3.block _ (lt_of_heap c1)).trans c1
  have d2' := (hB3.block _ (lt_of_heap c2)).trans c2
  have d3' := (hB3.block _ (lt_of_heap c3)).trans c3
  have u0 := blk_cell d1' 0
  have u1 := blk_cell d1' 1
  have u2 := blk_cell d2' 2
  have u4 := blk_cell d2' 4
  simp at u0 u1 u2 u4
  have HH2 := Lib.hid (H2 w3 hB3)
  have HW3 := Lib.hid hw3
  have D3 := Lib.hid d3'
  have B4 := Lib.hid b4
  clear y0 y2 y4 H2 c1 c2 c3 d1' d2' d3' hw3 b4 hs1
  go_upto_region 4 with fail
  rw [HW3.out]
  go_wp2_with fail
  refine HH2.out.mono ?_
  rintro e w4 ⟨a', n', c', f2, t2, a2, m2, d2, kr, rfl, hB4, s, H3⟩
  obtain ⟨w5, hw5, p4, p5, hB5⟩ := two_box w4 #[.slice a' n' c', .int .i64 room] #[.int .u8 f2, .int .u8 t2, .slice a2 m2 d2] 38 48
  have q3 := (hB5.block _ (lt_of_heap ((hB4.block _ (lt_of_heap D3.out)).trans D3.out))).trans ((hB4.block _ (lt_of_heap D3.out)).trans D3.out)
  have q4 := (hB5.block _ (lt_of_heap ((hB4.block _ (lt_of_heap B4.out)).trans B4.out))).trans ((hB4.block _ (lt_of_heap B4.out)).trans B4.out)
  have l3 := lt_of_heap D3.out
  have l4 := lt_of_heap B4.out
  have hs4 := hB4.size
  have l31 := lt_of_heap B3.out
  have hs2 := hK2.size
  have HD : Hid (∀ w', Upd (fun _ => False) w5 w' → Below w5.heap.size w5 w' → Calls Try.prog 17 #[.agg #[.int .u8 f1, .int .u8 t1, .slice a1 m1 d1], .agg #[.int .u8 f2, .int .u8 t2, .slice a2 m2 d2]] w' fun e w6 => e = .returned (.bool s) ∧ R w1 (.slice a' n' c') (s && (kp == kr)) w6 ∧
      w6.heap[w.heap.size + 1 + 1]? = some (.cells #[.slice none 0 0, .int .i64 0] 38 (0, 0)) ∧ w6.heap[w2.heap.size]? = some (.cells #[.int .u8 f1, .int .u8 t1, .slice a1 m1 d1] 30 (0, 0)) ∧ w6.heap[w4.heap.size]? = some (.cells #[.slice a' n' c', .int .i64 room] 38 (0, 0)) ∧ w6.heap[w4.heap.size + 1]? = some (.cells #[.int .u8 f2, .int .u8 t2, .slice a2 m2 d2] 48 (0, 0))) := by
    intro w' _ hb
    refine (H3 w' (hB5.trans (hb.mono hB5.size))).mono ?_
    rintro e w6 ⟨rfl, hB6, hR⟩
    have hb6 := hb.trans (hB6.mono hb.size)
    exact ⟨rfl, hR, (hb6.block _ (lt_of_heap q3)).trans q3, (hb6.block _ (lt_of_heap q4)).trans q4, (hb6.block _ (lt_of_heap p4)).trans p4, (hb6.block _ (lt_of_heap p5)).trans p5⟩
  have v0 := blk_cell q4 0
  have v1 := blk_cell q4 1
  have v2 := blk_cell q4 2
  have n0 := blk_cell p4 0
  have n1 := blk_cell p4 1
  have k0 := blk_cell p5 0
  have k1 := blk_cell p5 1
  have k2 := blk_cell p5 2
  simp at v0 v1 v2 n0 n1 k0 k1 k2
  have HW5 := Lib.hid hw5
  have hne : ¬ w2.heap.size = w.heap.size + 1 + 1 := by omega
  have hne' : ¬ w.heap.size + 1 + 1 = w2.heap.size := by omega
  have hnf : ¬ w4.heap.size = w.heap.size + 1 + 1 := by omega
  have hnf' : ¬ w.heap.size + 1 + 1 = w4.heap.size := by omega
  have hng : ¬ w4.heap.size + 1 = w.heap.size + 1 + 1 := by omega
  have hng' : ¬ w.heap.size + 1 + 1 = w4.heap.size + 1 := by omega
  have hnh : ¬ w4.heap.size = w.heap.size + 1 := by omega
  have hnh' : ¬ w.heap.size + 1 = w4.heap.size := by omega
  clear u0 u1 u2 u4 hw5 p4 p5 q3 q4 H3
  go_upto_region 5 with fail
  rw [HW5.out]
  cases s
  · refine wp_region_held_drew (S := fun w' => w'.cell? ⟨w4.heap.size, 0, none⟩ = some (.slice a' n' c') ∧ w'.cell? ⟨w4.heap.size, 1, none⟩ = some (.int .i64 room) ∧ w'.cell? ⟨w2.heap.size, 0, none⟩ = some (.int .u8 f1) ∧ w'.cell? ⟨w2.heap.size, 1, none⟩ = some (.int .u8 t1) ∧ w'.cell? ⟨w2.heap.size, 2, none⟩ = some (.slice a1 m1 d1) ∧ w'.cell? ⟨w4.heap.size + 1, 0, none⟩ = some (.int .u8 f2) ∧ w'.cell? ⟨w4.heap.size + 1, 1, none⟩ = some (.int .u8 t2) ∧ w'.cell? ⟨w4.heap.size + 1, 2, none⟩ = some (.slice a2 m2 d2)) (by kernel_rfl) (by simp [*]) (fun hHeld => ?_)
    refine wpAnyH_take (i := 0) (v := ?_) rfl (by kernel_rfl) (by kernel_rfl) (by kernel_rfl) (fun _ _ _ h => h) (Or.inl ⟨by rfl, ?_⟩) hHeld ?_
    rotate_left
    · intro w hSw; (try dsimp only at hSw); go_simp; all_goals (with_reducible rfl)
    try simp only [List.getElem_toArray, List.getElem_cons_zero, List.getElem_cons_succ, Act.put, List.setIfInBounds_toArray, List.set_cons_zero, List.set_cons_succ]
    refine wpAnyH_take (i := 1) (v := ?_) rfl (by kernel_rfl) (by kernel_rfl) (by kernel_rfl) (fun _ _ _ h => h) (Or.inl ⟨by rfl, ?_⟩) hHeld ?_
    rotate_left
    · intro w hSw; (try dsimp only at hSw); go_simp; all_goals (with_reducible rfl)
    try simp only [List.getElem_toArray, List.getElem_cons_zero, List.getElem_cons_succ, Act.put, List.setIfInBounds_toArray, List.set_cons_zero, List.set_cons_succ]
    refine wpAnyH_take (i := 2) (v := ?_) rfl (by kernel_rfl) (by kernel_rfl) (by kernel_rfl) (fun _ _ _ h => h) (Or.inl ⟨by rfl, ?_⟩) hHeld ?_
    rotate_left
    · intro w hSw; (try dsimp only at hSw); go_simp; all_goals (with_reducible rfl)
    try simp only [List.getElem_toArray, List.getElem_cons_zero, List.getElem_cons_succ, Act.put, List.setIfInBounds_toArray, List.set_cons_zero, List.set_cons_succ]
    refine wpAnyH_ready (rs := [3]) (by kernel_rfl) (by simp) ?_
    refine AllReadyH.cons rfl (fun K hK => ?_) AllReadyH.nil
    go_simp
    go_at_call 17
    refine (HD.out _ ((Upd.refl _ _).drew) ((Below.refl _ _).drew)).mono ?_
    rintro e w6 ⟨rfl, hR, hb3, hb2, hb4, hb5⟩
    have v0 := blk_cell hb2 0
    have v1 := blk_cell hb2 1
    have v2 := blk_cell hb2 2
    have n0 := blk_cell hb4 0
    have n1 := blk_cell hb4 1
    have k0 := blk_cell hb5 0
    have k1 := blk_cell hb5 1
    have k2 := blk_cell hb5 2
    have s0 := blk_cell hb3 0
    have s1 := blk_cell hb3 1
    have g0 := blk_frozen hb3 0
    have g1 := blk_frozen hb3 1
    simp at v0 v1 v2 n0 n1 k0 k1 k2 s0 s1
    have HB3 := Lib.hid hb3
    have HR := Lib.hid hR
    clear hb2 hb3 hb4 hb5 hR hHeld
    refine hK.out _ _ ⟨n0, n1, v0, v1, v2, k0, k1, k2⟩ (fun hHeld => ?_)
    try simp only [List.getElem_toArray, List.getElem_cons_zero, List.getElem_cons_succ, Act.put, List.setIfInBounds_toArray, List.set_cons_zero, List.set_cons_succ]
    refine wpAnyH_take (i := 4) (v := ?_) rfl (by kernel_rfl) (by kernel_rfl) (by kernel_rfl) (fun _ _ _ h => h) (Or.inl ⟨by rfl, ?_⟩) hHeld ?_
    rotate_left
    · intro w hSw; (try dsimp only at hSw); go_simp; all_goals (with_reducible rfl)
    try simp only [List.getElem_toArray, List.getElem_cons_zero, List.getElem_cons_succ, Act.put, List.setIfInBounds_toArray, List.set_cons_zero, List.set_cons_succ]
    refine wpAnyH_take (i := 5) (v := undef) rfl (by kernel_rfl) (by kernel_rfl) (by kernel_rfl) (fun _ _ _ h => h) (Or.inr ⟨by rfl, rfl⟩) hHeld ?_
    try simp only [List.getElem_toArray, List.getElem_cons_zero, List.getElem_cons_succ, Act.put, List.setIfInBounds_toArray, List.set_cons_zero, List.set_cons_succ]
    refine wpAnyH_take (i := 6) (v := undef) rfl (by kernel_rfl) (by kernel_rfl) (by kernel_rfl) (fun _ _ _ h => h) (Or.inr ⟨by rfl, rfl⟩) hHeld ?_
    try simp only [List.getElem_toArray, List.getElem_cons_zero, List.getElem_cons_succ, Act.put, List.setIfInBounds_toArray, List.set_cons_zero, List.set_cons_succ]
    refine wpAnyH_take (i := 7) (v := undef) rfl (by kernel_rfl) (by kernel_rfl) (by kernel_rfl) (fun _ _ _ h => h) (Or.inr ⟨by rfl, rfl⟩) hHeld ?_
    try simp only [List.getElem_toArray, List.getElem_cons_zero, List.getElem_cons_succ, Act.put, List.setIfInBounds_toArray, List.set_cons_zero, List.set_cons_succ]
    refine wpAnyH_take (i := 8) (v := ?_) rfl (by kernel_rfl) (by kernel_rfl) (by kernel_rfl) (fun _ _ _ h => h) (Or.inl ⟨by rfl, ?_⟩) hHeld ?_
    rotate_left
    · intro w hSw; (try dsimp only at hSw); go_simp; all_goals (with_reducible rfl)
    try simp only [List.getElem_toArray, List.getElem_cons_zero, List.getElem_cons_succ, Act.put, List.setIfInBounds_toArray, List.set_cons_zero, List.set_cons_succ]
    refine wpAnyH_ready (rs := [9]) (by kernel_rfl) (by simp) ?_
    refine AllReadyH.cons rfl (fun K hK => ?_) AllReadyH.nil
    go_simp
    refine hK.out _ _ (by first | (simp [*]; done) | go_keep) (fun hHeld => ?_)
    try simp only [List.getElem_toArray, List.getElem_cons_zero, List.getElem_cons_succ, Act.put, List.setIfInBounds_toArray, List.set_cons_zero, List.set_cons_succ]
    refine wpAnyH_take (i := 10) (v := ?_) rfl (by kernel_rfl) (by kernel_rfl) (by kernel_rfl) (fun _ _ _ h => h) (Or.inl ⟨by rfl, ?_⟩) hHeld ?_
    rotate_left
    · intro w hSw; (try dsimp only at hSw); go_simp; all_goals (with_reducible rfl)
    try simp only [List.getElem_toArray, List.getElem_cons_zero, List.getElem_cons_succ, Act.put, List.setIfInBounds_toArray, List.set_cons_zero, List.set_cons_succ]
    refine wpAnyH_done (by kernel_rfl) ?_ _
    go_wp2_with fail
    have t3 := blk_set (blk_set HB3.out 0 (.slice a' n' c')) 1 (.int .i64 room)
    simp at t3
    have e0 := blk_cell t3 0
    have e1 := blk_cell t3 1
    simp at e0 e1
    exact bodyPost_ret (v := .tuple #[.agg #[.slice a' n' c', .int .i64 room], .bool false]) (by simp [results, Try.results15, go_sem, e0, e1]) rfl ⟨a', n', c', false, w1, w6, rfl, by rw [HS1.out]; omega, HR.out, ((Upd.refl (fun q => q = w.heap.size + 1 + 1) w6).setCell ⟨w.heap.size + 1 + 1, 0, none⟩ _ (fun _ => rfl)).setCell ⟨w.heap.size + 1 + 1, 1, none⟩ _ (fun _ => rfl)⟩
  · go_region_held3 (fun w' => w'.cell? ⟨w4.heap.size, 0, none⟩ = some (.slice a' n' c') ∧ w'.cell? ⟨w4.heap.size, 1, none⟩ = some (.int .i64 room) ∧ w'.cell? ⟨w2.heap.size, 0, none⟩ = some (.int .u8 f1) ∧ w'.cell? ⟨w2.heap.size, 1, none⟩ = some (.int .u8 t1) ∧ w'.cell? ⟨w2.heap.size, 2, none⟩ = some (.slice a1 m1 d1) ∧ w'.cell? ⟨w4.heap.size + 1, 0, none⟩ = some (.int .u8 f2) ∧ w'.cell? ⟨w4.heap.size + 1, 1, none⟩ = some (.int .u8 t2) ∧ w'.cell? ⟨w4.heap.size + 1, 2, none⟩ = some (.slice a2 m2 d2))
      (first | (simp [*]; done) | go_keep)
      (first | (go_at_call 17; refine (HD.out _ ((Upd.refl _ _).drew) ((Below.refl _ _).drew)).mono ?_; rintro e w6 ⟨rfl, hR, hb3, hb2, hb4, hb5⟩; have v0 := blk_cell hb2 0; have v1 := blk_cell hb2 1; have v2 := blk_cell hb2 2; have n0 := blk_cell hb4 0; have n1 := blk_cell hb4 1; have k0 := blk_cell hb5 0; have k1 := blk_cell hb5 1; have k2 := blk_cell hb5 2; have s0 := blk_cell hb3 0; have s1 := blk_cell hb3 1; have g0 := blk_frozen hb3 0; have g1 := blk_frozen hb3 1; simp at v0 v1 v2 n0 n1 k0 k1 k2 s0 s1; have HB3 := Lib.hid hb3; have HR := Lib.hid hR; clear hb2 hb3 hb4 hb5 hR))
    go_wp2_with fail
    have t3 := blk_set (blk_set HB3.out 0 (.slice a' n' c')) 1 (.int .i64 room)
    simp at t3
    have e0 := blk_cell t3 0
    have e1 := blk_cell t3 1
    simp at e0 e1
    exact bodyPost_ret (v := .tuple #[.agg #[.slice a' n' c', .int .i64 room], .bool (kp == kr)]) (by simp [results, Try.results15, go_sem, e0, e1]) rfl ⟨a', n', c', (kp == kr), w1, w6, rfl, by rw [HS1.out]; omega, HR.out, ((Upd.refl (fun q => q = w.heap.size + 1 + 1) w6).setCell ⟨w.heap.size + 1 + 1, 0, none⟩ _ (fun _ => rfl)).setCell ⟨w.heap.size + 1 + 1, 1, none⟩ _ (fun _ => rfl)⟩

end Go.Proofs.Ytehgbpepaakanaa
