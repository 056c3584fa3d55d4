/-
  The disk: Append.
-/
import Derived.Test.YtehgbpepaakanaaDoorCi
namespace Go.Proofs.YtehgbpepaakanaaDoor
open Go.RowKit Go.Shelf
set_option linter.unusedVariables false
set_option linter.unusedSimpArgs false
set_option maxRecDepth 20000

attribute [local go_sem] Oper.semAt_some

/-- An owned row of bytes that is not empty, as one that can be read. -/
theorem own_read {B : Nat} {w : World} {a : Option Addr} {n c : Nat} {bs : List Int} (h : w.ownsRow B 5 1 (.slice a n c) n (cellsOf encB bs)) (hl : bs.length = n) (hn : 0 < n) :
    ∃ b o, a = some ⟨b, o, none⟩ ∧ b < w.heap.size ∧ n ≤ c ∧ (c : Int) ≤ 9223372036854775807 ∧ ∀ j x, bs[j]? = some x → w.cell? ⟨b, o + j, none⟩ = some (.int .u8 x) := by
  have hR : BR w a n c bs := by
    refine BS.read ?_
    have := ownsRow_base (base' := 0) h (fun _ _ => Nat.zero_le _)
    unfold BS; rw [hl]; exact this
  rcases hR with ⟨h, _⟩ | ⟨b1, o1, e, h1, _, h2, h3, h4⟩
  · omega
  · exact ⟨b1, o1, e, h1, h2, h3, h4⟩
/-- The cells of a row that can be read. -/
theorem read_cells {w : World} {b o : Nat} {bs : List Int} (hc : ∀ j x, bs[j]? = some x → w.cell? ⟨b, o + j, none⟩ = some (.int .u8 x)) : ∀ (j : Nat) u, (cellsOf encB bs)[j]? = some u → w.cell? ((⟨b, o, none⟩ : Addr).add j) = some u := by
  intro j u hu
  have hj : j < bs.length * 1 := by have := (List.getElem?_eq_some_iff.1 hu).1; rwa [cellsOf_length encB 1 encB_len] at this
  obtain ⟨x, hx⟩ : ∃ x, bs[j]? = some x := ⟨_, List.getElem?_eq_getElem (by omega)⟩
  have e := cellsOf_at encB 1 encB_len bs j 0 x hx (by omega)
  rw [Nat.mul_one, Nat.add_zero, hu] at e
  rw [Addr.add_lit, hc j x hx]
  simp [encB] at e
  rw [e]

set_option maxHeartbeats 1000000 in
theorem append21 (b off m d : Nat) (bs : List Int) (w : World) (hb : b < w.heap.size) (hlen : bs.length = m) (hm : m ≤ 900) (hd : m ≤ d) (hd2 : (d : Int) ≤ 9223372036854775807)
    (hc : ∀ j x, bs[j]? = some x → w.cell? ⟨b, off + j, none⟩ = some (.int .u8 x)) (hB : Byts bs) :
    Calls Tryd.prog 21 #[.agg #[.slice none 0 0, .int .i64 0, .int .i64 1000], .slice (some ⟨b, off, none⟩) m d] w fun e w' => ∃ a' c', e = .returned (.tuple #[.agg #[.slice a' (m + 7) c', .int .i64 0, .int .i64 1000], .int .i64 0]) ∧ w'.ownsRow w.heap.size 5 1 (.slice a' (m + 7) c') (m + 7) (cellsOf encB (frameOf bs)) ∧ Below w.heap.size w w' := by
  obtain ⟨i0, hi0, hz0, hz1, hz2⟩ := info_parts Tryd.infoB
  obtain ⟨w2, hw2⟩ : ∃ w2, (w.alloc (.cells #[.slice none 0 0, .int .i64 0, .int .i64 1000] 67)).alloc (.cells #[.slice none 0 0, .int .i64 0, .int .i64 0] 67) = w2 := ⟨_, rfl⟩
  have hB2 : Below w.heap.size w w2 := by rw [← hw2]; exact ((Below.refl _ w).alloc (Nat.le_refl _) _).alloc (by simp) _
  have hb1 : DB w2 w.heap.size (.slice none 0 0) 0 1000 := by rw [← hw2]; exact blk_alloc (World.alloc_heap_new w _) _
  have hb2 : DB w2 (w.heap.size + 1) (.slice none 0 0) 0 0 := by rw [← hw2]; have := World.alloc_heap_new (w.alloc (.cells #[.slice none 0 0, .int .i64 0, .int .i64 1000] 67)) (.cells #[.slice none 0 0, .int .i64 0, .int .i64 0] 67); rwa [World.size_alloc] at this
  have hz : w2.heap.size = w.heap.size + 2 := by rw [← hw2]; simp
  have hO : Hid (Calls Tryd.prog 46 #[.agg #[.slice none 0 0, .int .i64 0, .int .i64 1000], .int .i64 0] w2 fun e w' => ∃ a' d', e = .returned (.agg #[.slice a' 0 d', .int .i64 0, .int .i64 1000]) ∧ BS w' (.slice a' 0 d') [] ∧ (∀ k, (Value.slice a' 0 d').ownBlock = some k → w2.heap.size ≤ k) ∧ Below w2.heap.size w2 w') :=
    own46 none 0 0 [] 0 1000 w2 (.inl ⟨rfl, rfl, rfl⟩) (by omega)
  have hl1 := lt_of_heap hb1
  have hl2 := lt_of_heap hb2
  obtain ⟨x0, x1, x2, -⟩ := hb1.cells
  have H1 := Lib.hid hb1
  have H2 := Lib.hid hb2
  have HC := Lib.hid hc
  have HW2 := Lib.hid hw2
  clear hb1 hb2 hc hw2
  go_enter Tryd.func21, Tryd.ntmps21
  go_upto_region 1 with fail
  rw [HW2.out]
  go_wp2_with fail
  refine hO.out.mono ?_
  rintro e w3 ⟨a1, d1, rfl, hS, hk, hB3⟩
  have hb13 : DB w3 w.heap.size (.slice none 0 0) 0 1000 := (hB3.block _ hl1).trans H1.out
  have hb23 : DB w3 (w.heap.size + 1) (.slice none 0 0) 0 0 := (hB3.block _ hl2).trans H2.out
  obtain ⟨w4, hw4⟩ : ∃ w4, ((w3.setCell ⟨w.heap.size, 0, none⟩ (.slice a1 0 d1)).setCell ⟨w.heap.size, 1, none⟩ (.int .i64 0)).setCell ⟨w.heap.size, 2, none⟩ (.int .i64 1000) = w4 := ⟨_, rfl⟩
  have hb14 : DB w4 w.heap.size (.slice a1 0 d1) 0 1000 := by rw [← hw4]; exact (((hb13.set0 (.slice a1 0 d1)).set1 0).set2 1000)
  have hU4 : Upd (fun k => k = w.heap.size) w3 w4 := by rw [← hw4]; exact (((Upd.refl (fun k => k = w.heap.size) w3).setCell ⟨w.heap.size, 0, none⟩ _ (fun _ => rfl)).setCell ⟨w.heap.size, 1, none⟩ _ (fun _ => rfl)).setCell ⟨w.heap.size, 2, none⟩ _ (fun _ => rfl)
  have hb24 : DB w4 (w.heap.size + 1) (.slice none 0 0) 0 0 := hb23.upd hU4 (by omega)
  have hS4 : w4.ownsRow (w.heap.size + 2) 5 1 (.slice a1 0 d1) 0 [] := ownsRow_base (base' := w.heap.size + 2) (hS.upd hU4 (fun k h e => by have := hk k h; omega)) (fun g hg => by have := hk g hg; omega)
  have hB4 : Below w.heap.size w w4 := (hB2.trans (hB3.mono hB2.size)).trans (hU4.below (Nat.le_trans hB2.size hB3.size) (fun i hi e => by omega))
  have hz4 : w.heap.size + 2 ≤ w4.heap.size := by have := hB3.size; have := hU4.size; omega
  obtain ⟨p0, p1, p2, q0, q1, q2⟩ := hb13.cells
  have hF := Lib.hid (frame_is b off m d bs w4 (by omega) hlen (by omega) hd hd2 (fun j x hx => (hB4.cell (p := ⟨b, off + j, none⟩) hb).trans (HC.out j x hx)) hB)
  have H14 := Lib.hid hb14
  have H24 := Lib.hid hb24
  have HS4 := Lib.hid hS4
  have HW4 := Lib.hid hw4
  clear hb13 hb23 hb14 hb24 hS hk hS4 hw4 hB3
  clear x0 x1 x2
  go_upto_region 2 with fail
  rw [HW4.out]
  clear p0 p1 p2 q0 q1 q2
  go_wp2_with fail
  refine hF.out.mono ?_
  rintro e w5 ⟨a5, c5, rfl, hown5, hB5⟩
  have hb15 : DB w5 w.heap.size (.slice a1 0 d1) 0 1000 := (hB5.block _ (by omega)).trans H14.out
  have hb25 : DB w5 (w.heap.size + 1) (.slice none 0 0) 0 0 := (hB5.block _ (by omega)).trans H24.out
  have hfl : (frameOf bs).length = m + 7 := by rw [frameOf_len, hlen]
  obtain ⟨fb, fo, rfl, hfb, hfc, hfc2, hfr⟩ := own_read hown5 hfl (by omega)
  have hS5 : w5.ownsRow (w.heap.size + 2) 5 1 (.slice a1 0 d1) 0 [] := ownsRow_upd HS4.out (Upd.of_below hB5 (fun _ => False)) (fun _ _ h => h)
  obtain ⟨p0, p1, p2, q0, q1, q2⟩ := hb15.cells
  have H15 := Lib.hid hb15
  have H25 := Lib.hid hb25
  have HS5 := Lib.hid hS5
  have HFC := Lib.hid (read_cells hfr)
  have HFL : Hid ((cellsOf encB (frameOf bs)).length = (m + 7) * 1) := by
    have := cellsOf_length encB 1 encB_len (frameOf bs); rw [hfl] at this; exact this
  have hms : ¬ (1000 : Int) < (m : Int) + 7 := by omega
  clear hb15 hb25 hS5 hown5 hfr hF hO
  go_upto_region 7 with fail
  go_wp2_with (at_builtin; refine wpList_append_own_at _ rfl _ _ 28 rfl (w.heap.size + 2) 5 i0 (.int .u8 0) 1 1 Tryd.underlying28 hi0 hz0 hz1 hz2 rfl (by decide) _ _ _ rfl HS5.out ⟨fb, fo, none⟩ (m + 7) c5 (cellsOf encB (frameOf bs)) rfl ?qa1 ?qa2 ?qa3 ?qa4 ?qa5 ?qa6 ?_)
  case qa1 => exact HFL.out
  case qa2 => exact HFC.out
  case qa3 => exact encB_one _
  case qa4 => unfold maxLen; omega
  case qa5 => omega
  case qa6 => have := hB5.size; omega
  intro v6 w6 hown6 hgrow6 hnil6 hat6
  have hU6 := Upd.of_grown hgrow6
  have hlt5 := HS5.out.lt
  have hb16 : DB w6 w.heap.size (.slice a1 0 d1) 0 1000 := H15.out.upd hU6 (fun e => by have := hlt5 _ e; omega)
  have hb26 : DB w6 (w.heap.size + 1) (.slice none 0 0) 0 0 := H25.out.upd hU6 (fun e => by have := hlt5 _ e; omega)
  have hB6 : Below w.heap.size w w6 := (hB4.trans (hB5.mono hB4.size)).trans (hU6.below (Nat.le_trans hB4.size hB5.size) (fun i hi e => by have := hlt5 _ e; omega))
  obtain ⟨a6, c6, rfl⟩ := bytes_slice (by rw [hfl]; exact hown6)
  rw [hfl] at hown6 hat6 ⊢
  have HO6 := Lib.hid hown6
  clear p0 p1 p2 q0 q1 q2 hown6 hgrow6 hnil6 hat6 hlt5
  obtain ⟨p0, p1, p2, q0, q1, q2⟩ := hb16.cells
  obtain ⟨y0, y1, y2, z0, z1, z2⟩ := hb26.cells
  have H16 := Lib.hid hb16
  have H26 := Lib.hid hb26
  clear hb16 hb26
  go_wp2_with fail
  have hD : DB _ (w.heap.size + 1) _ _ _ := ((((H26.out.far ⟨w.heap.size, 0, none⟩ (by show w.heap.size + 1 ≠ w.heap.size; omega) (.slice a6 (m + 7) c6)).set0 (.slice a6 (m + 7) c6)).set1 0).set2 1000)
  have hU : Upd (fun k => k = w.heap.size ∨ k = w.heap.size + 1) w6 _ := ((((Upd.refl (fun k => k = w.heap.size ∨ k = w.heap.size + 1) w6).setCell ⟨w.heap.size, 0, none⟩ (.slice a6 (m + 7) c6) (fun _ => .inl rfl)).setCell ⟨w.heap.size + 1, 0, none⟩ (.slice a6 (m + 7) c6) (fun _ => .inr rfl)).setCell ⟨w.heap.size + 1, 1, none⟩ (.int .i64 0) (fun _ => .inr rfl)).setCell ⟨w.heap.size + 1, 2, none⟩ (.int .i64 1000) (fun _ => .inr rfl)
  obtain ⟨e0, e1, e2, -⟩ := hD.cells
  have hrow := HO6.out
  refine bodyPost_ret (v := .tuple #[.agg #[.slice a6 (m + 7) c6, .int .i64 0, .int .i64 1000], .int .i64 0]) (by simp [results, Tryd.results21, go_sem, e0, e1, e2]) rfl ⟨a6, c6, rfl, ?_, ?_⟩
  · exact ownsRow_upd (ownsRow_base hrow (fun g hg => by have := (hrow.lt g hg).1; omega)) hU (fun k hk h => by have := (hrow.lt k hk).1; omega)
  · exact hB6.trans (hU.below hB6.size (fun i hi h => by omega))
end Go.Proofs.YtehgbpepaakanaaDoor
