/-
  party.Say.
-/
import Derived.Test.YtehgbpepaakanaaDoorTb
namespace Go.Proofs.YtehgbpepaakanaaDoor
open Go.RowKit
set_option linter.unusedVariables false
set_option linter.unusedSimpArgs false
set_option maxRecDepth 20000

attribute [local go_sem] Oper.semAt_some

/-- The box of a packet. -/
def KB (w : World) (B : Nat) (q : Int) (s : ByteArray) : Prop := w.heap[B]? = some (.cells #[.int .i64 q, .string s] 54 (0, 0))
theorem KB.cells {w : World} {B : Nat} {q : Int} {s : ByteArray} (h : KB w B q s) : w.cell? ⟨B, 0, none⟩ = some (.int .i64 q) ∧ w.cell? ⟨B, 1, none⟩ = some (.string s) ∧ w.frozen? ⟨B, 0, none⟩ = false ∧ w.frozen? ⟨B, 1, none⟩ = false := by
  have h0 := blk_cell h 0
  have h1 := blk_cell h 1
  simp at h0 h1
  exact ⟨h0, h1, blk_frozen h 0, blk_frozen h 1⟩
theorem KB.set0 {w : World} {B : Nat} {q : Int} {s : ByteArray} (h : KB w B q s) (u : Int) : KB (w.setCell ⟨B, 0, none⟩ (.int .i64 u)) B u s := by simpa [KB] using blk_set h 0 (.int .i64 u)
theorem KB.set1 {w : World} {B : Nat} {q : Int} {s : ByteArray} (h : KB w B q s) (u : ByteArray) : KB (w.setCell ⟨B, 1, none⟩ (.string u)) B q u := by simpa [KB] using blk_set h 1 (.string u)

set_option maxHeartbeats 1000000 in
theorem say17 (nx : Int) (a : Option Addr) (m d : Nat) (ps : List Pk) (r : Int) (s : ByteArray) (w : World) (h : PR w a m d ps) (hc : Consec (nx - m) ps) (hr : 1 ≤ r) (hr2 : r ≤ 100) (hm : (m : Int) < r) (h0 : 0 ≤ nx - m) (h1 : nx < 1048576) (hs : s.size ≤ 500) :
    Calls Tryd.prog 17 #[.agg #[.int .i64 nx, .slice a m d, .int .i64 r], .string s] w fun e w' => ∃ a' d', e = .returned (.tuple #[.agg #[.int .i64 (nx + 1), .slice a' (m + 1) d', .int .i64 r], .agg #[.int .i64 nx, .string s], .int .i64 0]) ∧
      PS w' (.slice a' (m + 1) d') (ps ++ [⟨nx, s⟩]) ∧ (∀ k, (Value.slice a' (m + 1) d').ownBlock = some k → w.heap.size ≤ k) ∧ Below w.heap.size w w' := by
  obtain ⟨i0, hi0, hz0, hz1, hz2⟩ := info_parts Tryd.infoPk
  obtain ⟨w2, hw2⟩ : ∃ w2, ((w.alloc (.cells #[.int .i64 nx, .slice a m d, .int .i64 r] 48)).alloc (.cells #[.int .i64 0, .slice none 0 0, .int .i64 0] 48)).alloc (.cells #[.int .i64 0, .string ⟨#[]⟩] 54) = w2 := ⟨_, rfl⟩
  have hB2 : Below w.heap.size w w2 := by rw [← hw2]; exact (((Below.refl _ w).alloc (Nat.le_refl _) _).alloc (by simp) _).alloc (by simp; omega) _
  have hb1 : OB w2 w.heap.size nx (.slice a m d) r := by rw [← hw2]; exact blk_alloc (blk_alloc (heap_alloc_new w _) _) _
  have hb2 : OB w2 (w.heap.size + 1) 0 (.slice none 0 0) 0 := by
    rw [← hw2]
    have := heap_alloc_new (w.alloc (.cells #[.int .i64 nx, .slice a m d, .int .i64 r] 48)) (.cells #[.int .i64 0, .slice none 0 0, .int .i64 0] 48)
    rw [World.size_alloc] at this
    exact blk_alloc this _
  have hb3 : KB w2 (w.heap.size + 2) 0 ⟨#[]⟩ := by
    rw [← hw2]
    have := heap_alloc_new ((w.alloc (.cells #[.int .i64 nx, .slice a m d, .int .i64 r] 48)).alloc (.cells #[.int .i64 0, .slice none 0 0, .int .i64 0] 48)) (.cells #[.int .i64 0, .string ⟨#[]⟩] 54)
    rw [World.size_alloc, World.size_alloc] at this
    exact this
  have hz : w2.heap.size = w.heap.size + 3 := by rw [← hw2]; simp
  have hm100 : m ≤ 100 := by omega
  have hlen := h.len
  have HCl := Lib.hid (clone40 a m d ps w2 (h.below hB2) hm100)
  have hl1 := lt_of_heap hb1
  have hl2 := lt_of_heap hb2
  have hl3 := lt_of_heap hb3
  obtain ⟨x0, x1, x2, -⟩ := hb1.cells
  have H1 := Lib.hid hb1
  have H2 := Lib.hid hb2
  have H3 := Lib.hid hb3
  have HC := Lib.hid hc
  have HW2 := Lib.hid hw2
  have HLen := Lib.hid hlen
  clear h hc hb1 hb2 hb3 hw2 hlen
  go_enter Tryd.func17, Tryd.ntmps17
  go_upto_region 1 with fail
  rw [HW2.out]
  go_wp2_with fail
  refine HCl.out.mono ?_
  rintro e w3 ⟨a3, d3, rfl, hS, hk, hB3⟩
  have hb13 : OB w3 w.heap.size nx (.slice a m d) r := (hB3.block _ hl1).trans H1.out
  obtain ⟨w4, hw4⟩ : ∃ w4, w3.setCell ⟨w.heap.size, 1, none⟩ (.slice a3 m d3) = w4 := ⟨_, rfl⟩
  have hb14 : OB w4 w.heap.size nx (.slice a3 m d3) r := by rw [← hw4]; exact hb13.set1 _
  have hU4 : Upd (fun k => k = w.heap.size) w3 w4 := by rw [← hw4]; exact (Upd.refl (fun k => k = w.heap.size) w3).setCell ⟨w.heap.size, 1, none⟩ _ (fun _ => rfl)
  have hb24 : OB w4 (w.heap.size + 1) 0 (.slice none 0 0) 0 := OB.upd ((hB3.block _ hl2).trans H2.out) hU4 (by omega)
  have hb34 : KB w4 (w.heap.size + 2) 0 ⟨#[]⟩ := hU4.heap ((hB3.block _ hl3).trans H3.out) (by omega)
  have hS4 : PS w4 (.slice a3 m d3) ps := hS.upd hU4 (fun k h e => by have := hk k h; omega)
  have hB4 : Below w.heap.size w w4 := (hB2.trans (hB3.mono hB2.size)).trans (hU4.below (Nat.le_trans hB2.size hB3.size) (fun i hi e => by omega))
  have hz4 : w.heap.size + 3 ≤ w4.heap.size := by have := hB3.size; have := hU4.size; omega
  obtain ⟨p0, p1, p2, q0, q1, q2⟩ := hb13.cells
  have HR := Lib.hid (right41 nx a3 m d3 ps r w4 hS4.read HC.out hr hr2 (by omega) h0 (by omega))
  have HK := Lib.hid hk
  have H14 := Lib.hid hb14
  have H24 := Lib.hid hb24
  have H34 := Lib.hid hb34
  have HS4 := Lib.hid hS4
  have HW4 := Lib.hid hw4
  have HB4 := Lib.hid hB4
  clear hb13 hb14 hb24 hb34 hS hk hS4 hw4 hB3 hB4 hU4
  clear x0 x1 x2
  go_upto_region 2 with fail
  rw [HW4.out]
  clear p0 p1 p2 q0 q1 q2
  obtain ⟨p0, p1, p2, q0, q1, q2⟩ := H14.out.cells
  go_wp2_with fail
  refine HR.out.mono ?_
  rintro e w5 ⟨rfl, hB5⟩
  have hl4 := lt_of_heap H14.out
  have hb15 : OB w5 w.heap.size nx (.slice a3 m d3) r := (hB5.block _ hl4).trans H14.out
  have hb25 : OB w5 (w.heap.size + 1) 0 (.slice none 0 0) 0 := (hB5.block _ (by omega)).trans H24.out
  have hb35 : KB w5 (w.heap.size + 2) 0 ⟨#[]⟩ := (hB5.block _ (by omega)).trans H34.out
  have hS5 : PS w5 (.slice a3 m d3) ps := HS4.out.upd (Upd.of_below hB5 (fun _ => False)) (fun _ _ h => h)
  have hB05 : Below w.heap.size w w5 := HB4.out.trans (hB5.mono HB4.out.size)
  have hz5 := hB5.size
  obtain ⟨w6, hw6⟩ : ∃ w6, w5.alloc (.cells #[.int .i64 nx, .string s] 54) = w6 := ⟨_, rfl⟩
  have hU6 : Upd (fun _ => False) w5 w6 := by rw [← hw6]; exact (Upd.refl _ w5).alloc _
  have hb16 : OB w6 w.heap.size nx (.slice a3 m d3) r := hb15.upd hU6 (fun h => h)
  have hb26 : OB w6 (w.heap.size + 1) 0 (.slice none 0 0) 0 := hb25.upd hU6 (fun h => h)
  have hb36 : KB w6 (w.heap.size + 2) 0 ⟨#[]⟩ := hU6.heap hb35 (fun h => h)
  have hb46 : KB w6 w5.heap.size nx s := by rw [← hw6]; exact heap_alloc_new w5 _
  have hS6 : PS w6 (.slice a3 m d3) ps := hS5.upd hU6 (fun _ _ h => h)
  have hz6 : w6.heap.size = w5.heap.size + 1 := by rw [← hw6]; simp
  have hB06 : Below w.heap.size w w6 := by rw [← hw6]; exact hB05.alloc hB05.size _
  have HS7 : Hid (w6.alloc (.cells #[.int .i64 nx, .string s] 54) |>.ownsRow (w.heap.size + 3) 54 2 (.slice a3 m d3) m (cellsOf encPk ps)) := by
    have := hS6.upd ((Upd.refl (fun _ => False) w6).alloc (.cells #[.int .i64 nx, .string s] 54)) (fun _ _ h => h)
    rw [PS, HLen.out] at this
    exact ownsRow_base this (fun g hg => by have := HK.out g hg; omega)
  clear p0 p1 p2 q0 q1 q2
  obtain ⟨p0, p1, p2, q0, q1, q2⟩ := hb15.cells
  have HW6 := Lib.hid hw6
  have H16 := Lib.hid hb16
  have H26 := Lib.hid hb26
  have H36 := Lib.hid hb36
  have H46 := Lib.hid hb46
  have HB06 := Lib.hid hB06
  have hs' : ¬ (500 : Int) < (s.size : Int) := by omega
  have hsb : decide ((500 : Int) < (s.size : Int)) = false := decide_eq_false hs'
  have hnx : (nx == 1048576) = false := by simp; omega
  have hmr : ¬ r ≤ (m : Int) := by omega
  clear hb15 hb25 hb35 hS5 hB05 hw6 hU6 hb16 hb26 hb36 hb46 hS6 hB06 hB5
  go_upto_region 9 with fail
  rw [HW6.out]
  clear p0 p1 p2 q0 q1 q2
  obtain ⟨p0, p1, p2, q0, q1, q2⟩ := H16.out.cells
  obtain ⟨k0, k1, k2, k3⟩ := H46.out.cells
  go_wp2_with (at_builtin; refine wpList_append_own_at _ rfl _ _ 46 rfl (w.heap.size + 3) 54 i0 (.agg #[.int .i64 0, .string ⟨#[]⟩]) 2 24 Tryd.underlying46 hi0 hz0 hz1 hz2 rfl (by decide) _ _ _ rfl HS7.out ⟨w5.heap.size + 1, 0, none⟩ 1 1 [.int .i64 nx, .string s] rfl ?qa1 ?qa2 ?qa3 ?qa4 ?qa5 ?qa6 ?_)
  case qa1 => rfl
  case qa2 =>
    intro j u hu
    rw [Addr.add_lit, ← hz6, blk_cell (heap_alloc_new w6 _), Nat.zero_add]
    rw [← List.getElem?_toArray] at hu
    exact hu
  case qa3 =>
    intro u hu
    simp only [List.mem_cons, List.not_mem_nil, or_false] at hu
    rcases hu with rfl | rfl <;> rfl
  case qa4 => unfold maxLen; omega
  case qa5 => omega
  case qa6 => simp; omega
  intro v8 w8 hown8 hgrow8 hnil8 hat8
  have hlt7 := HS7.out.lt
  have hU8 : Upd (fun k => w.heap.size + 3 ≤ k ∧ k ≠ w5.heap.size) w6 w8 := ((Upd.refl (fun k => w.heap.size + 3 ≤ k ∧ k ≠ w5.heap.size) w6).alloc (.cells #[.int .i64 nx, .string s] 54)).trans (Upd.of_grown hgrow8) (fun i hi e => by
    have h1 := hlt7 i e
    have := HK.out i e
    refine ⟨h1.1, fun h => ?_⟩
    have h2 := HS4.out.lt i e
    omega)
  have hS8 : PS w8 v8 (ps ++ [⟨nx, s⟩]) := by
    rw [PS, List.length_append, cellsOf_append, cellsOf_one, HLen.out]
    exact ownsRow_base hown8 (fun _ _ => Nat.zero_le _)
  obtain ⟨a8, d8, rfl⟩ := hS8.slice
  have hl9 : (ps ++ [(⟨nx, s⟩ : Pk)]).length = m + 1 := by rw [List.length_append, HLen.out]; rfl
  rw [hl9] at hS8 hown8 ⊢
  have hb18 : OB w8 w.heap.size nx (.slice a3 m d3) r := H16.out.upd hU8 (by omega)
  have hb28 : OB w8 (w.heap.size + 1) 0 (.slice none 0 0) 0 := H26.out.upd hU8 (by omega)
  have hb38 : KB w8 (w.heap.size + 2) 0 ⟨#[]⟩ := hU8.heap H36.out (by omega)
  have hb48 : KB w8 w5.heap.size nx s := hU8.heap H46.out (by omega)
  have hz8 := hU8.size
  obtain ⟨w9, hw9⟩ : ∃ w9, (w8.setCell ⟨w.heap.size, 1, none⟩ (.slice a8 (m + 1) d8)).setCell ⟨w.heap.size, 0, none⟩ (.int .i64 (nx + 1)) = w9 := ⟨_, rfl⟩
  have hU9 : Upd (fun k => k = w.heap.size) w8 w9 := by rw [← hw9]; exact ((Upd.refl (fun k => k = w.heap.size) w8).setCell ⟨w.heap.size, 1, none⟩ _ (fun _ => rfl)).setCell ⟨w.heap.size, 0, none⟩ _ (fun _ => rfl)
  have hb19 : OB w9 w.heap.size (nx + 1) (.slice a8 (m + 1) d8) r := by rw [← hw9]; exact (hb18.set1 _).set0 _
  have hb29 : OB w9 (w.heap.size + 1) 0 (.slice none 0 0) 0 := hb28.upd hU9 (by omega)
  have hb39 : KB w9 (w.heap.size + 2) 0 ⟨#[]⟩ := hU9.heap hb38 (by omega)
  have hb49 : KB w9 w5.heap.size nx s := hU9.heap hb48 (by omega)
  have hk9 : ∀ k, (Value.slice a8 (m + 1) d8).ownBlock = some k → w.heap.size + 3 ≤ k := fun k hk => (hown8.lt k hk).1
  have hS9 : PS w9 (.slice a8 (m + 1) d8) (ps ++ [⟨nx, s⟩]) := by
    refine PS.upd hS8 hU9 (fun k hk e => ?_)
    have := hk9 k hk
    omega
  have hB9 : Below w.heap.size w w9 := (HB06.out.trans (hU8.below HB06.out.size (fun i hi h => by omega))).trans (hU9.below (by omega) (fun i hi h => by omega))
  clear p0 p1 p2 q0 q1 q2 k0 k1 k2 k3 hown8 hgrow8 hnil8 hat8 hlt7 hS8 hU8 hb28 hb38 hb48
  obtain ⟨p0, p1, p2, q0, q1, q2⟩ := hb18.cells
  have hwn : IntKind.i64.wrap (nx + 1) = nx + 1 := by rw [IntKind.wrap_i64]; omega
  have HW9 := Lib.hid hw9
  have H29 := Lib.hid hb29
  have H39 := Lib.hid hb39
  have H49 := Lib.hid hb49
  have HS9 := Lib.hid hS9
  have HB9 := Lib.hid hB9
  have HK9 := Lib.hid hk9
  have H19 := Lib.hid hb19
  clear hb18 hw9 hU9 hb19 hb29 hb39 hb49 hk9 hS9 hB9 H14 H24 H34 HS4 HB4 H16 H26 H36 H46 HW4 HW6 HW2 H1 H2 H3 HCl HR HB06 HS7 HC
  go_upto_region 11 with fail
  rw [HW9.out]
  clear p0 p1 p2 q0 q1 q2
  obtain ⟨p0, p1, p2, q0, q1, q2⟩ := H19.out.cells
  obtain ⟨y0, y1, y2, z0, z1, z2⟩ := H29.out.cells
  obtain ⟨k0, k1, k2, k3⟩ := H49.out.cells
  obtain ⟨u0, u1, u2, u3⟩ := H39.out.cells
  go_region
  all_goals go_wp2_with fail
  obtain ⟨wz, hwz⟩ : ∃ wz, (((w9.setCell ⟨w.heap.size + 1, 0, none⟩ (.int .i64 (nx + 1))).setCell ⟨w.heap.size + 1, 1, none⟩ (.slice a8 (m + 1) d8)).setCell ⟨w.heap.size + 1, 2, none⟩ (.int .i64 r)) = wz := ⟨_, rfl⟩
  have ez1 : OB wz (w.heap.size + 1) (nx + 1) (.slice a8 (m + 1) d8) r := by rw [← hwz]; exact ((H29.out.set0 (nx + 1)).set1 (.slice a8 (m + 1) d8)).set2 r
  have hUz : Upd (fun k => k = w.heap.size + 1) w9 wz := by rw [← hwz]; exact (((Upd.refl (fun k => k = w.heap.size + 1) w9).setCell ⟨w.heap.size + 1, 0, none⟩ _ (fun _ => rfl)).setCell ⟨w.heap.size + 1, 1, none⟩ _ (fun _ => rfl)).setCell ⟨w.heap.size + 1, 2, none⟩ _ (fun _ => rfl)
  have ez2 : KB wz (w.heap.size + 2) 0 ⟨#[]⟩ := hUz.heap H39.out (by omega)
  simp only [hwz]
  have hD : OB ((wz.setCell ⟨w.heap.size + 2, 0, none⟩ (.int .i64 nx)).setCell ⟨w.heap.size + 2, 1, none⟩ (.string s)).drew (w.heap.size + 1) _ _ _ := (ez1.far ⟨w.heap.size + 2, 0, none⟩ (by show w.heap.size + 1 ≠ w.heap.size + 2; omega) (.int .i64 nx)).far ⟨w.heap.size + 2, 1, none⟩ (by show w.heap.size + 1 ≠ w.heap.size + 2; omega) (.string s)
  have hE : KB ((wz.setCell ⟨w.heap.size + 2, 0, none⟩ (.int .i64 nx)).setCell ⟨w.heap.size + 2, 1, none⟩ (.string s)).drew (w.heap.size + 2) nx s := (ez2.set0 nx).set1 s
  have hU : Upd (fun k => k = w.heap.size + 1 ∨ k = w.heap.size + 2) w9 ((wz.setCell ⟨w.heap.size + 2, 0, none⟩ (.int .i64 nx)).setCell ⟨w.heap.size + 2, 1, none⟩ (.string s)).drew := Upd.drew (((hUz.mono (fun _ _ h => .inl h)).setCell ⟨w.heap.size + 2, 0, none⟩ _ (fun _ => .inr rfl)).setCell ⟨w.heap.size + 2, 1, none⟩ _ (fun _ => .inr rfl))
  obtain ⟨e0, e1, e2, -⟩ := hD.cells
  obtain ⟨e3, e4, -⟩ := hE.cells
  refine bodyPost_ret (v := .tuple #[.agg #[.int .i64 (nx + 1), .slice a8 (m + 1) d8, .int .i64 r], .agg #[.int .i64 nx, .string s], .int .i64 0]) (by simp [results, Tryd.results17, go_sem, e0, e1, e2, e3, e4]) rfl ⟨a8, d8, rfl, HS9.out.upd hU ?_, fun k h => ?_, ?_⟩
  · rintro k h (e | e)
    · have := HK9.out k h; omega
    · have := HK9.out k h; omega
  · have := HK9.out k h; omega
  · exact HB9.out.trans (hU.below HB9.out.size (fun i hi h => by omega))
end Go.Proofs.YtehgbpepaakanaaDoor
