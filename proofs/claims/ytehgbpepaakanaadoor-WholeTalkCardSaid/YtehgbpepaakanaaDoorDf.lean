/-
  A record as bytes, and back.
-/
import Derived.Test.YtehgbpepaakanaaDoorDe
import Derived.StillTailTactics
namespace Go.Proofs.YtehgbpepaakanaaDoor
open Go.RowKit Go.Shelf
set_option linter.unusedVariables false
set_option linter.unusedSimpArgs false
set_option maxRecDepth 20000

attribute [local go_sem] Oper.semAt_some

theorem sign_is (w : World) : Calls Tryd.prog 45 #[.int .i64 (-5)] w fun e w' => e = .returned (.int .u64 9223372036854775803) ∧ w' = w := by
  have h : bits .xor .u64 18446744073709551611 9223372036854775808 = 9223372036854775803 := by decide
  have h2 : IntKind.u64.wrap (-5) = 18446744073709551611 := by decide
  go_enter Tryd.func45, Tryd.ntmps45
  go_wp2
  go_ret
  exact ⟨rfl, rfl⟩
theorem unsign_is (w : World) : Calls Tryd.prog 48 #[.int .u64 9223372036854775803] w fun e w' => e = .returned (.int .i64 (-5)) ∧ w' = w := by
  have h : bits .xor .u64 9223372036854775803 9223372036854775808 = 18446744073709551611 := by decide
  have h2 : IntKind.i64.wrap 18446744073709551611 = -5 := by decide
  go_enter Tryd.func48, Tryd.ntmps48
  go_wp2
  go_ret
  exact ⟨rfl, rfl⟩
theorem new_site (w : World) : Calls Tryd.prog 26 #[] w fun e w' => (∃ p, e = .returned (.pointer (some p))) ∧ Below w.heap.size w w' := by
  have hmk : ∀ w : World, (Instr.makeMap 114 none).run Tryd.prog w = .ok (.map (some w.heap.size)) (w.alloc (.map #[] 0)) := fun w => rfl
  go_enter Tryd.func26, Tryd.ntmps26
  go_wp2_with fail
  go_ret
  exact ⟨⟨_, rfl⟩, ((Below.refl _ w).alloc (Nat.le_refl _) _).alloc (by simp) _⟩

def shapeS : ByteArray := ⟨#[97, 98, 97, 100]⟩
def recV : List CV := [⟨3, ⟨#[]⟩⟩, ⟨300, ⟨#[]⟩⟩, ⟨3, ⟨#[]⟩⟩, ⟨9223372036854775803, ⟨#[]⟩⟩]
def recB : List Int := encAll [97, 98, 97, 100] recV
theorem recB_len : recB.length = 12 := by decide
theorem recB_byts : Byts recB := encAll_byts _ _
theorem rec_fits : ∀ (j : Nat) c x, [97, 98, 97, 100][j]? = some c → recV[j]? = some x → Fits c x := by
  intro j c x hc hx
  have hj : j < 4 := (List.getElem?_eq_some_iff.1 hc).1
  rcases j with _ | _ | _ | _ | j
  · simp [recV] at hc hx; subst hc hx; exact ⟨.inl rfl, rfl, by decide⟩
  · simp [recV] at hc hx; subst hc hx; exact ⟨.inr (.inl rfl), rfl, by decide⟩
  · simp [recV] at hc hx; subst hc hx; exact ⟨.inl rfl, rfl, by decide⟩
  · simp [recV] at hc hx; subst hc hx; exact ⟨.inr (.inr (.inr (.inl rfl))), rfl, by decide⟩
  · omega

set_option maxHeartbeats 1000000 in
theorem bytes20 (w : World) : Calls Tryd.prog 20 #[.agg #[.int .i64 3, .int .i64 300, .int .u8 3, .int .i64 (-5)]] w fun e w' => ∃ a' c', e = .returned (.tuple #[.slice a' 12 c', .int .i64 0]) ∧ w'.ownsRow w.heap.size 5 1 (.slice a' 12 c') 12 (cellsOf encB recB) ∧ Below w.heap.size w w' := by
  obtain ⟨w2, hw2⟩ : ∃ w2, w.alloc (.cells #[.int .i64 3, .int .i64 300, .int .u8 3, .int .i64 (-5)] 64) = w2 := ⟨_, rfl⟩
  have hB2 : Below w.heap.size w w2 := by rw [← hw2]; exact (Below.refl _ w).alloc (Nat.le_refl _) _
  have hb1 : w2.heap[w.heap.size]? = some (.cells #[.int .i64 3, .int .i64 300, .int .u8 3, .int .i64 (-5)] 64 (0, 0)) := by rw [← hw2]; exact World.alloc_heap_new w _
  have H1 := Lib.hid hb1
  have HW2 := Lib.hid hw2
  clear hb1 hw2
  have u3 : IntKind.u64.wrap 3 = 3 := by decide
  have u300 : IntKind.u64.wrap 300 = 300 := by decide
  go_enter Tryd.func20, Tryd.ntmps20
  go_upto_region 1 with fail
  rw [HW2.out]
  have HD : Hid (∀ w', Upd (fun _ => False) w2 w' → Calls Tryd.prog 27 #[.string ⟨#[97, 98, 97, 100]⟩, .slice (some ⟨w'.heap.size, 0, none⟩) 4 4] (w'.alloc (.cells #[.int .u64 3, .string ⟨#[]⟩, .int .u64 300, .string ⟨#[]⟩, .int .u64 3, .string ⟨#[]⟩, .int .u64 9223372036854775803, .string ⟨#[]⟩] 83)) fun e w4 =>
      ∃ a' c', e = .returned (.tuple #[.slice a' 12 c', .int .i64 0]) ∧ w4.ownsRow w.heap.size 5 1 (.slice a' 12 c') 12 (cellsOf encB recB) ∧ Below w.heap.size w w4 ∧ w4.heap[w.heap.size]? = some (.cells #[.int .i64 3, .int .i64 300, .int .u8 3, .int .i64 (-5)] 64 (0, 0))) := by
    intro w' hu
    have hs := hu.size
    have hz := hB2.size
    have hb' := hu.heap H1.out (fun h => h)
    have hl := lt_of_heap hb'
    have hE := encode_is [97, 98, 97, 100] ⟨#[97, 98, 97, 100]⟩ recV (some ⟨w'.heap.size, 0, none⟩) 4 4 (w'.alloc (.cells #[.int .u64 3, .string ⟨#[]⟩, .int .u64 300, .string ⟨#[]⟩, .int .u64 3, .string ⟨#[]⟩, .int .u64 9223372036854775803, .string ⟨#[]⟩] 83)) (by decide) (by decide) rfl
      (.inr ⟨w'.heap.size, 0, rfl, by simp, fun j x hx => by
        rw [blk_cell (World.alloc_heap_new w' _), blk_cell (World.alloc_heap_new w' _)]
        have hj : j < 4 := (List.getElem?_eq_some_iff.1 hx).1
        rcases j with _ | _ | _ | _ | j
        · simp [recV] at hx; subst hx; exact ⟨rfl, rfl⟩
        · simp [recV] at hx; subst hx; exact ⟨rfl, rfl⟩
        · simp [recV] at hx; subst hx; exact ⟨rfl, rfl⟩
        · simp [recV] at hx; subst hx; exact ⟨rfl, rfl⟩
        · omega⟩) rfl rfl rec_fits (by decide)
    refine hE.mono ?_
    rintro e w4 ⟨a', c', rfl, hown, hB4⟩
    have h12 : (encAll [97, 98, 97, 100] recV).length = 12 := recB_len
    rw [h12] at hown ⊢
    refine ⟨a', c', rfl, ownsRow_base hown (fun g hg => by have := (hown.lt g hg).1; simp at this; omega), ?_, ?_⟩
    · exact ((hB2.trans (hu.below hz (fun _ _ h => h))).alloc (by omega) _).trans (hB4.mono (by simp; omega))
    · exact (hB4.block _ (by simp; omega)).trans (blk_alloc hb' _)
  have x0 := blk_cell H1.out 0
  have x1 := blk_cell H1.out 1
  have x2 := blk_cell H1.out 2
  have x3 := blk_cell H1.out 3
  simp at x0 x1 x2 x3
  go_region_held3 (fun w' => w'.cell? ⟨w.heap.size, 0, none⟩ = some (.int .i64 3) ∧ w'.cell? ⟨w.heap.size, 1, none⟩ = some (.int .i64 300) ∧ w'.cell? ⟨w.heap.size, 2, none⟩ = some (.int .u8 3) ∧ w'.cell? ⟨w.heap.size, 3, none⟩ = some (.int .i64 (-5)))
    (first | (simp [*]; done) | go_keep)
    (first
      | (go_at_call 45; refine (sign_is _).mono ?_; rintro e w6 ⟨rfl, rfl⟩)
      | (go_at_call 27; refine (HD.out _ ((Upd.refl _ _).drew)).mono ?_; rintro e w4 ⟨a4, c4, rfl, hO4, hB4, hb4⟩; have y0 := blk_cell hb4 0; have y1 := blk_cell hb4 1; have y2 := blk_cell hb4 2; have y3 := blk_cell hb4 3; simp at y0 y1 y2 y3; have HO4 := Lib.hid hO4; have HB4 := Lib.hid hB4; clear hO4 hB4 hb4))
  go_wp2_with fail
  go_ret2
  exact ⟨a4, c4, rfl, HO4.out, HB4.out⟩

theorem rec_row {w : World} {a : Option Addr} {n c : Nat} {B : Nat} (h : w.ownsRow B 83 2 (.slice a n c) n (cellsOf encCV recV)) (hn : n = 4) :
    ∃ g, a = some ⟨g, 0, none⟩ ∧ 4 ≤ c ∧ g < w.heap.size ∧ B ≤ g ∧ w.cell? ⟨g, 0, none⟩ = some (.int .u64 3) ∧ w.cell? ⟨g, 2, none⟩ = some (.int .u64 300) ∧ w.cell? ⟨g, 4, none⟩ = some (.int .u64 3) ∧ w.cell? ⟨g, 6, none⟩ = some (.int .u64 9223372036854775803) := by
  subst hn
  rcases h.2 with ⟨h0, h1⟩ | ⟨g, cap, cur, hv, hg, hcur, hnc, hcm, hsz, htake⟩
  · exact absurd h1 (by decide)
  · simp only [Value.slice.injEq] at hv
    obtain ⟨rfl, -, rfl⟩ := hv
    have hk : ∀ j, j < 8 → w.cell? ⟨g, j, none⟩ = (cellsOf encCV recV)[j]? := by
      intro j hj
      rw [blk_cell hcur, ← htake, List.getElem?_take, if_pos (by omega), Array.getElem?_toList]
    exact ⟨g, rfl, hnc, lt_of_heap hcur, hg, (hk 0 (by decide)).trans rfl, (hk 2 (by decide)).trans rfl, (hk 4 (by decide)).trans rfl, (hk 6 (by decide)).trans rfl⟩

set_option maxHeartbeats 1000000 in
theorem record25 (a : Option Addr) (d : Nat) (w : World) (hR : BR w a 12 d recB) : Calls Tryd.prog 25 #[.slice a 12 d] w fun e w' => e = .returned (.tuple #[.agg #[.int .i64 3, .int .i64 300, .int .u8 3, .int .i64 (-5)], .int .i64 0]) ∧ Below w.heap.size w w' := by
  obtain ⟨w2, hw2⟩ : ∃ w2, w.alloc (.cells #[.int .i64 0, .int .i64 0, .int .u8 0, .int .i64 0] 64) = w2 := ⟨_, rfl⟩
  have hB2 : Below w.heap.size w w2 := by rw [← hw2]; exact (Below.refl _ w).alloc (Nat.le_refl _) _
  have hb1 : w2.heap[w.heap.size]? = some (.cells #[.int .i64 0, .int .i64 0, .int .u8 0, .int .i64 0] 64 (0, 0)) := by rw [← hw2]; exact World.alloc_heap_new w _
  have HD := Lib.hid (decode_is [97, 98, 97, 100] ⟨#[97, 98, 97, 100]⟩ recV a 12 d w2 (by decide) (by decide) rfl (hR.below hB2) rfl rec_fits (by decide))
  have H1 := Lib.hid hb1
  have HW2 := Lib.hid hw2
  have hl1 := lt_of_heap hb1
  clear hb1 hw2 hR
  have u3 : IntKind.i64.wrap 3 = 3 := by decide
  have u300 : IntKind.i64.wrap 300 = 300 := by decide
  have u8 : IntKind.u8.wrap 3 = 3 := by decide
  go_enter Tryd.func25, Tryd.ntmps25
  go_upto_region 1 with fail
  rw [HW2.out]
  go_upto_region 2 with (go_at_call 37; refine HD.out.mono ?_; rintro e w3 ⟨a3, c3, rfl, hown, hB3⟩)
  obtain ⟨g, rfl, hc4, hg, hgB, y0, y2, y4, y6⟩ := rec_row hown rfl
  have hb3 := (hB3.block _ hl1).trans H1.out
  have x0 := blk_frozen hb3 0
  have x1 := blk_frozen hb3 1
  have x2 := blk_frozen hb3 2
  have x3 := blk_frozen hb3 3
  have z0 := blk_cell hb3 0
  have z1 := blk_cell hb3 1
  have z2 := blk_cell hb3 2
  have z3 := blk_cell hb3 3
  simp at z0 z1 z2 z3
  have HB3 := Lib.hid hb3
  have HBB := Lib.hid (hB2.trans (hB3.mono hB2.size))
  have hl4 : recV.length = 4 := rfl
  rw [hl4]
  clear hown hb3 hB3
  have hgne : ¬ g = w.heap.size := by omega
  have hgne' : ¬ w.heap.size = g := by omega
  go_upto_region 4 with fail
  go_region_held3 (fun w' => w'.cell? ⟨g, 0, none⟩ = some (.int .u64 3) ∧ w'.cell? ⟨g, 2, none⟩ = some (.int .u64 300) ∧ w'.cell? ⟨g, 4, none⟩ = some (.int .u64 3) ∧ w'.cell? ⟨g, 6, none⟩ = some (.int .u64 9223372036854775803))
    (first | (simp [*]; done) | go_keep)
    (first
      | (go_at_call 48; refine (unsign_is _).mono ?_; rintro e w6 ⟨rfl, rfl⟩)
      | fail)
  go_wp2_with fail
  have hD := blk_set (blk_set (blk_set (blk_set HB3.out 0 (.int .i64 3)) 1 (.int .i64 300)) 2 (.int .u8 3)) 3 (.int .i64 (-5))
  simp at hD
  have e0 := blk_cell hD 0
  have e1 := blk_cell hD 1
  have e2 := blk_cell hD 2
  have e3 := blk_cell hD 3
  simp at e0 e1 e2 e3
  have hU : Upd (fun k => k = w.heap.size) w3 _ := (((((Upd.refl (fun k => k = w.heap.size) w3).setCell ⟨w.heap.size, 0, none⟩ (.int .i64 3) (fun _ => rfl)).setCell ⟨w.heap.size, 1, none⟩ (.int .i64 300) (fun _ => rfl)).setCell ⟨w.heap.size, 2, none⟩ (.int .u8 3) (fun _ => rfl)).setCell ⟨w.heap.size, 3, none⟩ (.int .i64 (-5)) (fun _ => rfl)).drew
  refine bodyPost_ret (v := .tuple #[.agg #[.int .i64 3, .int .i64 300, .int .u8 3, .int .i64 (-5)], .int .i64 0]) (by simp [results, Tryd.results25, go_sem, e0, e1, e2, e3]) rfl ⟨rfl, ?_⟩
  exact HBB.out.trans (hU.below HBB.out.size (fun i hi h => by omega))

end Go.Proofs.YtehgbpepaakanaaDoor
