/-
  The reference of air: Turn.
-/
import Derived.Test.YtehgbpepaakanaaW
namespace Go.Proofs.Ytehgbpepaakanaa
open Go.RowKit Go.Joins
set_option linter.unusedVariables false
set_option linter.unusedSimpArgs false

set_option maxHeartbeats 1000000 in
theorem refTurn_err (room t i c pl z : Int) (w : World) (hc : c ≠ 0) (al : Option Addr) (nl cl : Nat) (hT : TakeErr w al nl cl room t i c) :
    Calls Try.prog 29 #[.agg #[.slice al nl cl, .int .i64 room], .int .u8 t, .int .i64 i, .int .u16 pl, .int .u8 z] w fun e w' => e = .returned (.tuple #[.agg #[.slice al nl cl, .int .i64 room], .int .i64 c]) ∧ Below w.heap.size w w' := by
  obtain ⟨w2, hw2, b1, b2, hB⟩ := two_box w #[.slice al nl cl, .int .i64 room] #[.slice none 0 0, .int .i64 0] 38 38
  have HT := Lib.hid (hT w2 hB)
  have H1 := Lib.hid b1
  have H2 := Lib.hid b2
  have HW := Lib.hid hw2
  clear hT b1 b2 hw2
  have hcb : (c != 0) = true := by simpa using hc
  go_enter Try.func29, Try.ntmps29
  go_wp2_with fail
  rw [HW.out]
  refine HT.out.mono ?_
  rintro e w3 ⟨rfl, hB3⟩
  obtain ⟨w4, hw4, ha4, hb4, hB4⟩ := two_box w3 #[.slice al nl cl, .int .i64 room] #[.int .u8 0, .int .u8 0, .slice none 0 0] 38 48
  have hm1 := H1.out
  have hm2 := H2.out
  have c1 := (hB3.block _ (lt_of_heap hm1)).trans hm1
  have c2 := (hB3.block _ (lt_of_heap hm2)).trans hm2
  have c1' := (hB4.block _ (lt_of_heap c1)).trans c1
  have c2' := (hB4.block _ (lt_of_heap c2)).trans c2
  have x0 := blk_cell c1' 0
  have x1 := blk_cell c1' 1
  have y0 := blk_cell c2' 0
  have y1 := blk_cell c2' 1
  have f0 := blk_frozen c2' 0
  have f1 := blk_frozen c2' 1
  simp at x0 x1 y0 y1
  have HW4 := Lib.hid hw4
  have C2 := Lib.hid c2'
  clear hm1 hm2 c1 c2 c1' c2' hw4 ha4 hb4
  go_upto_region 2 with fail
  rw [HW4.out]
  go_wp2_with fail
  have s1 := blk_set (blk_set C2.out 0 (.slice al nl cl)) 1 (.int .i64 room)
  simp at s1
  have e0 := blk_cell s1 0
  have e1 := blk_cell s1 1
  simp at e0 e1
  have hB3' := hB.trans (hB3.mono hB.size)
  have hB4' := hB3'.trans (hB4.mono hB3'.size)
  exact bodyPost_ret (v := .tuple #[.agg #[.slice al nl cl, .int .i64 room], .int .i64 c]) (by simp [results, Try.results29, go_sem, e0, e1]) rfl ⟨rfl, (hB4'.setCell (p := ⟨w.heap.size + 1, 0, none⟩) (Nat.le_succ _) _).setCell (p := ⟨w.heap.size + 1, 1, none⟩) (Nat.le_succ _) _⟩

set_option maxHeartbeats 1000000 in
theorem refTurn_empty (N : Nat → Prop) (room i pl z : Int) (w : World) (x : LX) (h : x.lv.t < 17) (al : Option Addr) (nl cl : Nat) (xs : List LX) (hR : RLN N w al nl cl xs) (k : Nat) (hk : xs[k]? = some x) (hm : x.lv.m = 0) (hi : ((toEnd x.lv.t (xs.take k)).length : Int) = i) (hcap : nl ≤ 10000) :
    Calls Try.prog 29 #[.agg #[.slice al nl cl, .int .i64 room], .int .u8 x.lv.t, .int .i64 i, .int .u16 pl, .int .u8 z] w fun e w' => e = .returned (.tuple #[.agg #[.slice al nl cl, .int .i64 room], .int .i64 7]) ∧ Below w.heap.size w w' := by
  obtain ⟨w2, hw2, b1, b2, hB⟩ := two_box w #[.slice al nl cl, .int .i64 room] #[.slice none 0 0, .int .i64 0] 38 38
  have hR2 := hR.below hB
  have HT := Lib.hid (refTake_ok room x.lv.t i w2 h al nl cl xs hR2.1 k x hk rfl hi hcap)
  have H1 := Lib.hid b1
  have H2 := Lib.hid b2
  have HW := Lib.hid hw2
  have HM := Lib.hid hm
  clear hR hR2 b1 b2 hw2 hm
  go_enter Try.func29, Try.ntmps29
  go_wp2_with fail
  rw [HW.out]
  refine HT.out.mono ?_
  rintro e w3 ⟨a3, n3, c3, rfl, -, -, hB3⟩
  obtain ⟨w4, hw4, ha4, hb4, hB4⟩ := two_box w3 #[.slice a3 n3 c3, .int .i64 room] #[.int .u8 x.lv.f, .int .u8 x.lv.t, .slice x.lv.a x.lv.m x.lv.d] 38 48
  have hm1 := H1.out
  have hm2 := H2.out
  have c1 := (hB3.block _ (lt_of_heap hm1)).trans hm1
  have c2 := (hB3.block _ (lt_of_heap hm2)).trans hm2
  have c1' := (hB4.block _ (lt_of_heap c1)).trans c1
  have c2' := (hB4.block _ (lt_of_heap c2)).trans c2
  have x0 := blk_cell c1' 0
  have x1 := blk_cell c1' 1
  have y0 := blk_cell c2' 0
  have y1 := blk_cell c2' 1
  have z0 := blk_cell hb4 0
  have z1 := blk_cell hb4 1
  have z2 := blk_cell hb4 2
  have f0 := blk_frozen c2' 0
  have f1 := blk_frozen c2' 1
  simp at x0 x1 y0 y1 z0 z1 z2
  have HW4 := Lib.hid hw4
  have C2 := Lib.hid c2'
  clear hm1 hm2 c1 c2 c1' c2' hw4 ha4 hb4
  go_upto_region 2 with fail
  rw [HW4.out]
  have hmi : x.lv.m = 0 := HM.out
  go_wp2_with fail
  have s1 := blk_set (blk_set C2.out 0 (.slice al nl cl)) 1 (.int .i64 room)
  simp at s1
  have e0 := blk_cell s1 0
  have e1 := blk_cell s1 1
  simp at e0 e1
  have hB3' := hB.trans (hB3.mono hB.size)
  have hB4' := hB3'.trans (hB4.mono hB3'.size)
  exact bodyPost_ret (v := .tuple #[.agg #[.slice al nl cl, .int .i64 room], .int .i64 7]) (by simp [results, Try.results29, go_sem, e0, e1]) rfl ⟨rfl, (hB4'.setCell (p := ⟨w.heap.size + 1, 0, none⟩) (Nat.le_succ _) _).setCell (p := ⟨w.heap.size + 1, 1, none⟩) (Nat.le_succ _) _⟩

theorem cellsOf_set3 (zs : List Lv) (k : Nat) (y : Lv) : cellsOf enc3 (zs.set k y) = (((cellsOf enc3 zs).set (k * 3) (.int .u8 y.f)).set (k * 3 + 1) (.int .u8 y.t)).set (k * 3 + 2) (.slice y.a y.m y.d) ∨ zs.length ≤ k := by
  induction zs generalizing k with
  | nil => exact .inr (Nat.zero_le _)
  | cons z r ih =>
    cases k with
    | zero => exact .inl (by simp [cellsOf, enc3])
    | succ k =>
      rcases ih k with h | h
      · refine .inl ?_
        simp only [cellsOf] at h
        simp only [List.set_cons_succ, cellsOf, List.flatMap_cons, h]
        rw [show (k + 1) * 3 = k * 3 + 1 + 1 + 1 by omega]
        simp [enc3]
      · exact .inr (by simpa using h)

theorem RL.cells {w : World} {x : Addr} {n c : Nat} {xs : List LX} (h : RL w (some x) n c xs) : ∀ j u, (cellsOf enc3 (xs.map LX.lv))[j]? = some u → w.cell? (x.add j) = some u := by
  rcases h.2.2.2.2 with rfl | ⟨b, off, e, hlt, hc⟩
  · intro j u hj; simp [cellsOf] at hj
  · cases e
    intro j u hj
    have hjl : j < xs.length * 3 := by have := (List.getElem?_eq_some_iff.1 hj).1; rw [cellsOf_length enc3 3 enc3_len, List.length_map] at this; exact this
    obtain ⟨y, hy⟩ : ∃ y, xs[j / 3]? = some y := ⟨_, List.getElem?_eq_getElem (by omega)⟩
    have h3 := cellsOf_at enc3 3 enc3_len (xs.map LX.lv) (j / 3) (j % 3) y.lv (by rw [List.getElem?_map, hy]; rfl) (by omega)
    rw [show j / 3 * 3 + j % 3 = j by omega] at h3
    rw [h3] at hj
    obtain ⟨c0, c1, c2⟩ := hc (j / 3) y hy
    rw [Addr.add_lit]
    rcases (show j % 3 = 0 ∨ j % 3 = 1 ∨ j % 3 = 2 by omega) with e | e | e
    · rw [e] at hj; simp [enc3] at hj; subst hj; rw [show off + j = off + j / 3 * 3 by omega]; exact c0
    · rw [e] at hj; simp [enc3] at hj; subst hj; rw [show off + j = off + j / 3 * 3 + 1 by omega]; exact c1
    · rw [e] at hj; simp [enc3] at hj; subst hj; rw [show off + j = off + j / 3 * 3 + 2 by omega]; exact c2

/-- .. turned. -/
def LX.turned (x : LX) (a : Option Addr) (d pl : Nat) (z : Int) : LX := ⟨⟨x.lv.f, x.lv.t, a, x.lv.m, d⟩, x.bs.set (pl % x.bs.length) (xorB (x.bs.getD (pl % x.bs.length) 0) z)⟩

set_option maxHeartbeats 1000000 in
theorem refTurn_ok (N : Nat → Prop) (room i z : Int) (pl : Nat) (w : World) (hN : ∀ k, N k → k < w.heap.size) (x : LX) (h : x.lv.t < 17) (al : Option Addr) (nl cl : Nat) (xs : List LX) (hR : RLN N w al nl cl xs) (k : Nat) (hk : xs[k]? = some x) (hm : 0 < x.lv.m) (hm2 : x.lv.m ≤ 4000) (hpl : pl < 65536) (hi : ((toEnd x.lv.t (xs.take k)).length : Int) = i) (hcap : nl ≤ 10000) :
    Calls Try.prog 29 #[.agg #[.slice al nl cl, .int .i64 room], .int .u8 x.lv.t, .int .i64 i, .int .u16 pl, .int .u8 z] w fun e w' => ∃ a d, RO N w room 0 (xs.set k (x.turned a d pl z)) e w' := by
  obtain ⟨i0, hi0, hz0, hz1, hz2⟩ := info_parts Try.infoB
  obtain ⟨j0, hj0, hy0, hy1, hy2⟩ := info_parts Try.infoL3
  have HX := Lib.hid (hR.1.2.2.2.1 x (List.mem_of_getElem? hk))
  obtain ⟨⟨f, t, ax, m, d⟩, bs⟩ := x
  simp only at h hm hm2 hi
  obtain ⟨b, off, rfl, hxb, hxl, hxd, hxm, hxc⟩ : ∃ b off, ax = some ⟨b, off, none⟩ ∧ b < w.heap.size ∧ bs.length = m ∧ m ≤ d ∧ (d : Int) ≤ 9223372036854775807 ∧ ∀ j y, bs[j]? = some y → w.cell? ⟨b, off + j, none⟩ = some (.int .u8 y) := by
    rcases HX.out with ⟨h0, _⟩ | ⟨b, off, e, h1, h2, h3, h4, h5⟩
    · simp only at h0; omega
    · exact ⟨b, off, e, h1, h2, h3, h4, h5⟩
  obtain ⟨bl, ol, rfl, -, -, -, -⟩ := hR.1.get hk
  obtain ⟨w2, hw2, b1, b2, hB⟩ := two_box w #[.slice (some ⟨bl, ol, none⟩) nl cl, .int .i64 room] #[.slice none 0 0, .int .i64 0] 38 38
  have hR2 := hR.below hB
  have HT := Lib.hid (refTake_ok room t i w2 h (some ⟨bl, ol, none⟩) nl cl xs hR2.1 k ⟨⟨f, t, some ⟨b, off, none⟩, m, d⟩, bs⟩ hk rfl hi hcap)
  have H1 := Lib.hid b1
  have H2 := Lib.hid b2
  have HW := Lib.hid hw2
  have HR := Lib.hid hR
  have HK := Lib.hid hk
  clear hR hR2 b1 b2 hw2 hk HX
  go_enter Try.func29, Try.ntmps29
  go_wp2_with fail
  rw [HW.out]
  refine HT.out.mono ?_
  rintro e w3 ⟨a3, n3, c3, rfl, -, -, hB3⟩
  obtain ⟨w4, hw4, ha4, hb4, hB4⟩ := two_box w3 #[.slice a3 n3 c3, .int .i64 room] #[.int .u8 f, .int .u8 t, .slice (some ⟨b, off, none⟩) m d] 38 48
  have hm1 := H1.out
  have hm2' := H2.out
  have c1 := (hB3.block _ (lt_of_heap hm1)).trans hm1
  have c2 := (hB3.block _ (lt_of_heap hm2')).trans hm2'
  have c1' := (hB4.block _ (lt_of_heap c1)).trans c1
  have c2' := (hB4.block _ (lt_of_heap c2)).trans c2
  have hB03 := hB.trans (hB3.mono hB.size)
  have hB04 := hB03.trans (hB4.mono hB03.size)
  have z0 := blk_cell hb4 0
  have z1 := blk_cell hb4 1
  have z2 := blk_cell hb4 2
  obtain ⟨w5, hw5⟩ : ∃ w5, w4.alloc (.cells #[] 5) = w5 := ⟨_, rfl⟩
  have hB45 : Below w4.heap.size w4 w5 := by rw [← hw5]; exact (Below.refl _ w4).alloc (Nat.le_refl _) _
  have hown5 : w5.ownsRow w4.heap.size 5 1 (.slice (some ⟨w4.heap.size, 0, none⟩) 0 0) 0 [] := by rw [← hw5]; exact World.ownsRow_made w4 #[] 0 (Nat.le_refl _) (Nat.zero_le _) rfl
  have d1 := (hB45.block _ (lt_of_heap c1')).trans c1'
  have d2 := (hB45.block _ (lt_of_heap c2')).trans c2'
  have d4 := (hB45.block _ (lt_of_heap hb4)).trans hb4
  have hB05 := hB04.trans (hB45.mono hB04.size)
  have y0 := blk_cell d4 0
  have y1 := blk_cell d4 1
  have y2 := blk_cell d4 2
  simp at z0 z1 z2 y0 y1 y2
  have hcells : Hid (∀ j u, (cellsOf encB bs)[j]? = some u → w5.cell? ⟨b, off + j, none⟩ = some u) := by
    intro j u hu
    have hj : j < bs.length := by have := (List.getElem?_eq_some_iff.1 hu).1; rw [cellsOf_length encB 1 encB_len] at this; omega
    obtain ⟨y, hy⟩ : ∃ y, bs[j]? = some y := ⟨_, List.getElem?_eq_getElem hj⟩
    have := cellsOf_at encB 1 encB_len bs j 0 y hy (by omega)
    simp [encB] at this
    rw [this] at hu
    cases hu
    exact (hB05.cell (p := ⟨b, off + j, none⟩) hxb).trans (hxc j y hy)
  have HO5 := Lib.hid hown5
  have HW4 := Lib.hid hw4
  have C1 := Lib.hid d1
  have C2 := Lib.hid d2
  have C3 := Lib.hid d4
  have hmi : ((m : Int) == 0) = false := by simp; omega
  have HL : Hid ((cellsOf encB bs).length = m * 1) := by rw [Hid, cellsOf_length encB 1 encB_len, hxl]
  have H1' : Hid (∀ u ∈ cellsOf encB bs, u.oneCell' = true) := encB_one bs
  have HXL := Lib.hid hxl
  have HS4 := Lib.hid (lt_of_heap hb4)
  clear hm1 hm2' c1 c2 c1' c2' hw4 ha4 hb4 hxc hxl d1 d2 d4 hown5
  go_upto_region 2 with fail
  rw [HW4.out]
  go_wp2_with (at_builtin; refine wpList_append_own _ rfl _ _ 26 rfl w4.heap.size 5 i0 (.int .u8 0) 1 1 Try.underlying26 hi0 hz0 hz1 hz2 rfl (by decide) _ _ _ rfl HO5.out ⟨b, off, none⟩ m d (cellsOf encB bs) rfl ?qc1 ?qc2 ?qc3 ?qc4 ?qc5 ?qc6 ?_)
  case qc1 => exact HL.out
  case qc2 =>
    intro j u hj
    rw [Addr.add_lit]
    exact hcells.out j u hj
  case qc3 => exact H1'.out
  case qc4 => unfold maxLen; omega
  case qc5 => omega
  case qc6 => exact hB45.size
  intro v6 w6 hown6 hgrow6 hnil6
  have hB46 : Below w4.heap.size w4 w6 := hB45.grown hgrow6 hB45.size (by intro q hq; simp [Value.ownBlock] at hq; omega)
  obtain ⟨g6, c6, rfl⟩ := ownsRow_form hown6 hm
  have hg6 : w4.heap.size ≤ g6 := (hown6.lt g6 rfl).1
  have hg6' : g6 < w6.heap.size := (hown6.lt g6 rfl).2
  obtain ⟨cur6, hcur6, hcut6⟩ : ∃ cur, w6.heap[g6]? = some (.cells cur 5 (0, 0)) ∧ cur.toList.take m = cellsOf encB bs := by
    rcases hown6.2 with ⟨h0, _⟩ | ⟨g', cap, cur, hv, _, hcur, _, _, _, htake⟩
    · cases h0
    · cases hv; exact ⟨cur, hcur, by simpa using htake⟩
  have hq : pl % m < m := Nat.mod_lt _ hm
  obtain ⟨y, hy⟩ : ∃ y, bs[pl % m]? = some y := ⟨_, List.getElem?_eq_getElem (by rw [HXL.out]; exact hq)⟩
  have hcq : cur6[pl % m]? = some (.int .u8 y) := by
    have := cellsOf_at encB 1 encB_len bs _ 0 _ hy (by omega)
    rw [← hcut6, List.getElem?_take, if_pos (by omega)] at this
    simpa [encB] using this
  have e6 := blk_cell hcur6 (pl % m)
  rw [hcq] at e6
  have f6 := blk_frozen hcur6 (pl % m)
  obtain ⟨q, hqd⟩ : ∃ q, pl % m = q := ⟨_, rfl⟩
  rw [hqd] at e6 f6 hq hcq hy
  have hqi : (pl : Int) % (m : Int) = (q : Int) := by rw [← hqd]; norm_cast
  have hqi2 : (pl : Int).tmod (m : Int) = (q : Int) := by rw [Int.tmod_eq_emod_of_nonneg (by omega)]; exact hqi
  have hqm : (q : Int) < (m : Int) := by omega
  have hwm : IntKind.i64.wrap (pl : Int) = (pl : Int) := by rw [IntKind.wrap_i64]; omega
  have HY := Lib.hid hy
  have HQ := Lib.hid hqd
  have HO6 := Lib.hid hown6
  have HC6 := Lib.hid hcur6
  have n1 := (hB46.block _ (lt_of_heap ((hB4.block _ (lt_of_heap ((hB3.block _ (lt_of_heap H1.out)).trans H1.out))).trans ((hB3.block _ (lt_of_heap H1.out)).trans H1.out)))).trans ((hB4.block _ (lt_of_heap ((hB3.block _ (lt_of_heap H1.out)).trans H1.out))).trans ((hB3.block _ (lt_of_heap H1.out)).trans H1.out))
  have n2 := (hB46.block _ (lt_of_heap ((hB4.block _ (lt_of_heap ((hB3.block _ (lt_of_heap H2.out)).trans H2.out))).trans ((hB3.block _ (lt_of_heap H2.out)).trans H2.out)))).trans ((hB4.block _ (lt_of_heap ((hB3.block _ (lt_of_heap H2.out)).trans H2.out))).trans ((hB3.block _ (lt_of_heap H2.out)).trans H2.out))
  have n3 : w6.heap[w3.heap.size + 1]? = some (.cells #[.int .u8 f, .int .u8 t, .slice (some ⟨b, off, none⟩) m d] 48 (0, 0)) := (hB46.block _ HS4.out).trans ((hB45.block _ HS4.out).symm.trans C3.out)
  have hl1 := lt_of_heap H1.out
  have hl2 := lt_of_heap H2.out
  have hs2 := hB3.size
  have hs4 := HS4.out
  have hb12 : w.heap.size + 1 < w3.heap.size := by omega
  obtain ⟨w7, hw7⟩ : ∃ w7, w6.setCell ⟨g6, q, none⟩ (.int .u8 (bits .xor .u8 y z)) = w7 := ⟨_, rfl⟩
  have p1 := blk_far n1 ⟨g6, q, none⟩ (by show w.heap.size ≠ g6; omega) (.int .u8 (bits .xor .u8 y z))
  have p2 := blk_far n2 ⟨g6, q, none⟩ (by show w.heap.size + 1 ≠ g6; omega) (.int .u8 (bits .xor .u8 y z))
  have p3 := blk_far n3 ⟨g6, q, none⟩ (by show w3.heap.size + 1 ≠ g6; omega) (.int .u8 (bits .xor .u8 y z))
  have p4 : w7.ownsRow w4.heap.size 5 1 (.slice (some ⟨g6, 0, none⟩) m c6) m (cellsOf encB (bs.set q (xorB y z))) := by
    rw [cellsOf_set, ← hw7]
    exact (World.ownsRow.stored hown6 q (.int .u8 (xorB y z))).1
  rw [hw7] at p1 p2 p3
  obtain ⟨w8, hw8⟩ : ∃ w8, w7.setCell ⟨w3.heap.size + 1, 2, none⟩ (.slice (some ⟨g6, 0, none⟩) m c6) = w8 := ⟨_, rfl⟩
  have q1 := blk_far p1 ⟨w3.heap.size + 1, 2, none⟩ (by show w.heap.size ≠ w3.heap.size + 1; omega) (.slice (some ⟨g6, 0, none⟩) m c6)
  have q2 := blk_far p2 ⟨w3.heap.size + 1, 2, none⟩ (by show w.heap.size + 1 ≠ w3.heap.size + 1; omega) (.slice (some ⟨g6, 0, none⟩) m c6)
  have q3 := blk_set p3 2 (.slice (some ⟨g6, 0, none⟩) m c6)
  have q4 : w8.ownsRow w4.heap.size 5 1 (.slice (some ⟨g6, 0, none⟩) m c6) m (cellsOf encB (bs.set q (xorB y z))) := by
    rw [← hw8]
    exact ownsRow_setCell_far p4 ⟨w3.heap.size + 1, 2, none⟩ _ (by simp [Value.ownBlock]; omega)
  rw [hw8] at q1 q2 q3
  simp at q3
  obtain ⟨w9, hw9⟩ : ∃ w9, w8.alloc (.cells #[] 48) = w9 := ⟨_, rfl⟩
  have r1 := blk_alloc q1 (.cells #[] 48)
  have r2 := blk_alloc q2 (.cells #[] 48)
  have r3 := blk_alloc q3 (.cells #[] 48)
  rw [hw9] at r1 r2 r3
  have hB89 : Below w8.heap.size w8 w9 := by rw [← hw9]; exact (Below.refl _ w8).alloc (Nat.le_refl _) _
  have r4 := ownsRow_upd q4 (Upd.of_below hB89 (fun _ => False)) (fun _ _ h => h)
  have hown9 : w9.ownsRow w8.heap.size 48 3 (.slice (some ⟨w8.heap.size, 0, none⟩) 0 0) 0 [] := by rw [← hw9]; exact World.ownsRow_made w8 #[] 0 (Nat.le_refl _) (Nat.zero_le _) rfl
  have hB06 := hB04.trans (hB46.mono hB04.size)
  have hs8 : w8.heap.size = w6.heap.size := by rw [← hw8, ← hw7]; simp [World.setCell]
  have hB08 : Below w.heap.size w w8 := by
    rw [← hw8, ← hw7]
    exact (hB06.setCell (p := ⟨g6, q, none⟩) (by show w.heap.size ≤ g6; omega) _).setCell (p := ⟨w3.heap.size + 1, 2, none⟩) (by show w.heap.size ≤ w3.heap.size + 1; omega) _
  have hB09 := hB08.trans (hB89.mono hB08.size)
  have k3 := blk_frozen p3 2
  have k30 := blk_cell p3 2
  have u0 := blk_cell r1 0
  have u1 := blk_cell r1 1
  simp at u0 u1 k30
  have R1 := Lib.hid r1
  have R2 := Lib.hid r2
  have R3 := Lib.hid r3
  have R4 := Lib.hid r4
  rw [hs8] at hown9
  have O9 := Lib.hid hown9
  clear hown6 hgrow6 hnil6 hcur6 hcut6 hy hqd hcells HL H1' n1 n2 n3 p1 p2 p3 p4 q1 q2 q3 q4 r1 r2 r3 r4 hown9 hB89
  have hnl : xs.length = nl := HR.out.1.1
  have hncl := HR.out.1.2.1
  have hclm := HR.out.1.2.2.1
  have hkl : k < nl := hnl ▸ (List.getElem?_eq_some_iff.1 HK.out).1
  have hR9 := Lib.hid (HR.out.1.below hB09)
  have HL2 : Hid ((cellsOf enc3 (xs.map LX.lv)).length = nl * 3) := by rw [Hid, cellsOf_length enc3 3 enc3_len, List.length_map, hnl]
  have H12 : Hid (∀ u ∈ cellsOf enc3 (xs.map LX.lv), u.oneCell' = true) := enc3_one _
  go_wp2_with (at_builtin; refine wpList_append_own _ rfl _ _ 36 rfl w6.heap.size 48 j0 (.agg #[.int .u8 0, .int .u8 0, .slice none 0 0]) 3 32 Try.underlying36 hj0 hy0 hy1 hy2 rfl (by decide) _ _ _ rfl O9.out ⟨bl, ol, none⟩ nl cl (cellsOf enc3 (xs.map LX.lv)) rfl ?qc1 ?qc2 ?qc3 ?qc4 ?qc5 ?qc6 ?_)
  case qc1 => exact HL2.out
  case qc2 => exact hR9.out.cells
  case qc3 => exact H12.out
  case qc4 => unfold maxLen; omega
  case qc5 => omega
  case qc6 => rw [← hw9]; simp; omega
  intro v10 w10 hown10 hgrow10 hnil10
  have hB810 : Below w8.heap.size w8 w10 := by
    refine Below.grown (w := w9) ?_ hgrow10 (by rw [← hw9]; simp) (by intro q hq; simp [Value.ownBlock] at hq; omega)
    rw [← hw9]
    exact (Below.refl _ w8).alloc (Nat.le_refl _) _
  obtain ⟨g10, c10, rfl⟩ := ownsRow_form hown10 (by omega)
  have hg10 : w6.heap.size ≤ g10 := (hown10.lt g10 rfl).1
  have hg10' : g10 < w10.heap.size := (hown10.lt g10 rfl).2
  have hG := Upd.of_grown hgrow10
  have hws : w.heap.size + 1 < w6.heap.size := by have := hB46.size; omega
  have hws3 : w3.heap.size + 1 < w6.heap.size := by have := hB46.size; omega
  have n1 := hG.heap R1.out (by simp [Value.ownBlock]; omega)
  have n2 := hG.heap R2.out (by simp [Value.ownBlock]; omega)
  have n3 := hG.heap R3.out (by simp [Value.ownBlock]; omega)
  have n4 := ownsRow_upd R4.out hG (by intro q hq hq2; simp [Value.ownBlock] at hq hq2; omega)
  have hB010 := hB08.trans (hB810.mono hB08.size)
  have u0 := blk_cell n1 0
  have u1 := blk_cell n1 1
  simp at u0 u1
  have HF := Lib.hid (refFind (some ⟨bl, ol, none⟩) nl cl xs room t i w10 (HR.out.1.below hB010))
  have N1 := Lib.hid n1
  have N2 := Lib.hid n2
  have N3 := Lib.hid n3
  have N4 := Lib.hid n4
  have O10 := Lib.hid hown10
  clear n1 n2 n3 n4 hown10 hgrow10 hnil10 hG R1 R2 R3 R4 HO6 HC6 C1 C2 C3 HO5 hB810 O9 hR9 H12 HL2
  go_wp2_with fail
  refine HF.out.mono ?_
  rintro e w11 ⟨hB11, hr⟩
  obtain rfl : e = .returned (.int .i64 k) := by
    rcases hr with ⟨k', x', rfl, hk', hx', hl'⟩ | ⟨rfl, hc⟩
    · have : k' = k := by
        rcases Nat.lt_trichotomy k' k with h | h | h
        · have := find_lt t xs k' k x' hk' hx' h; omega
        · exact h
        · have := find_lt t xs k k' _ HK.out rfl h; omega
      rw [this]
    · exfalso
      have := find_lt t xs k xs.length _ HK.out rfl (List.getElem?_eq_some_iff.1 HK.out).1
      rw [List.take_length] at this
      omega
  clear hr HF
  have m1 := (hB11.block _ (lt_of_heap N1.out)).trans N1.out
  have m2 := (hB11.block _ (lt_of_heap N2.out)).trans N2.out
  have m3 := (hB11.block _ (lt_of_heap N3.out)).trans N3.out
  have m4 := ownsRow_upd N4.out (Upd.of_below hB11 (fun _ => False)) (fun _ _ h => h)
  have m5 := ownsRow_upd O10.out (Upd.of_below hB11 (fun _ => False)) (fun _ _ h => h)
  obtain ⟨cur11, hcur11, hcut11⟩ : ∃ cur, w11.heap[g10]? = some (.cells cur 48 (0, 0)) ∧ cur.toList.take (nl * 3) = cellsOf enc3 (xs.map LX.lv) := by
    rcases m5.2 with ⟨h0, _⟩ | ⟨g', cap, cur, hv, _, hcur, _, _, _, htake⟩
    · cases h0
    · cases hv; exact ⟨cur, hcur, htake⟩
  have key : ∀ j, j < 3 → cur11[k * 3 + j]? = (enc3 ⟨f, t, some ⟨b, off, none⟩, m, d⟩)[j]? := by
    intro j hj
    have h1 := cellsOf_at enc3 3 enc3_len (xs.map LX.lv) k j ⟨f, t, some ⟨b, off, none⟩, m, d⟩ (by rw [List.getElem?_map, HK.out]; rfl) hj
    rw [← h1, ← hcut11, List.getElem?_take, if_pos (by omega)]
    simp
  have v0 := (blk_cell hcur11 (k * 3 + 0)).trans (key 0 (by decide))
  have v1 := (blk_cell hcur11 (k * 3 + 1)).trans (key 1 (by decide))
  have v2 := (blk_cell hcur11 (k * 3 + 2)).trans (key 2 (by decide))
  have fr0 := blk_frozen hcur11 (k * 3)
  have fr1 := blk_frozen hcur11 (k * 3 + 1)
  have fr2 := blk_frozen hcur11 (k * 3 + 2)
  simp [enc3] at v0 v1 v2
  have a0 := blk_cell m3 0
  have a1 := blk_cell m3 1
  have a2 := blk_cell m3 2
  have b0 := blk_cell m1 0
  have b1 := blk_cell m1 1
  have bf0 := blk_frozen m1 0
  have d0 := blk_cell m2 0
  have d1 := blk_cell m2 1
  have df0 := blk_frozen m2 0
  have df1 := blk_frozen m2 1
  simp at a0 a1 a2 b0 b1 d0 d1
  have hkk : (k : Int) < (nl : Int) := by omega
  have M1 := Lib.hid m1
  have M2 := Lib.hid m2
  have M3 := Lib.hid m3
  have M4 := Lib.hid m4
  have M5 := Lib.hid m5
  have hc11 := Lib.hid hcur11
  clear m1 m2 m3 m4 m5 hcur11 hcut11 key N1 N2 N3 N4 O10
  go_wp2_with fail
  obtain ⟨w12, hw12⟩ : ∃ w12, ((w11.setCell ⟨g10, k * 3, none⟩ (.int .u8 f)).setCell ⟨g10, k * 3 + 1, none⟩ (.int .u8 t)).setCell ⟨g10, k * 3 + 2, none⟩ (.slice (some ⟨g6, 0, none⟩) m c6) = w12 := ⟨_, rfl⟩
  rw [hw12]
  obtain ⟨wf, hwf⟩ : ∃ wf, ((w12.setCell ⟨w.heap.size, 0, none⟩ (.slice (some ⟨g10, 0, none⟩) nl c10)).setCell ⟨w.heap.size + 1, 0, none⟩ (.slice (some ⟨g10, 0, none⟩) nl c10)).setCell ⟨w.heap.size + 1, 1, none⟩ (.int .i64 room) = wf := ⟨_, rfl⟩
  rw [hwf]
  have hU12 : Upd (fun q => q = g10) w11 w12 := by
    rw [← hw12]
    exact (((Upd.refl (fun q => q = g10) w11).setCell ⟨g10, k * 3, none⟩ _ (fun _ => rfl)).setCell ⟨g10, k * 3 + 1, none⟩ _ (fun _ => rfl)).setCell ⟨g10, k * 3 + 2, none⟩ _ (fun _ => rfl)
  have hUf : Upd (fun q => q = w.heap.size ∨ q = w.heap.size + 1) w12 wf := by
    rw [← hwf]
    exact (((Upd.refl (fun q => q = w.heap.size ∨ q = w.heap.size + 1) w12).setCell ⟨w.heap.size, 0, none⟩ _ (fun _ => .inl rfl)).setCell ⟨w.heap.size + 1, 0, none⟩ _ (fun _ => .inr rfl)).setCell ⟨w.heap.size + 1, 1, none⟩ _ (fun _ => .inr rfl)
  have s2 := hU12.heap M2.out (by show ¬ w.heap.size + 1 = g10; omega)
  have s2' := blk_set (blk_set (blk_far s2 ⟨w.heap.size, 0, none⟩ (by show w.heap.size + 1 ≠ w.heap.size; omega) (.slice (some ⟨g10, 0, none⟩) nl c10)) 0 (.slice (some ⟨g10, 0, none⟩) nl c10)) 1 (.int .i64 room)
  rw [hwf] at s2'
  simp at s2'
  have e0 := blk_cell s2' 0
  have e1 := blk_cell s2' 1
  simp at e0 e1
  have hset : cellsOf enc3 ((xs.map LX.lv).set k ⟨f, t, some ⟨g6, 0, none⟩, m, c6⟩) = (((cellsOf enc3 (xs.map LX.lv)).set (k * 3) (.int .u8 f)).set (k * 3 + 1) (.int .u8 t)).set (k * 3 + 2) (.slice (some ⟨g6, 0, none⟩) m c6) := by
    rcases cellsOf_set3 (xs.map LX.lv) k ⟨f, t, some ⟨g6, 0, none⟩, m, c6⟩ with h | h
    · exact h
    · rw [List.length_map] at h; omega
  have s5 : w12.ownsRow w6.heap.size 48 3 (.slice (some ⟨g10, 0, none⟩) nl c10) nl (cellsOf enc3 ((xs.map LX.lv).set k ⟨f, t, some ⟨g6, 0, none⟩, m, c6⟩)) := by
    rw [← hw12, hset]
    exact (World.ownsRow.stored (World.ownsRow.stored (World.ownsRow.stored M5.out (k * 3) (.int .u8 f)).1 (k * 3 + 1) (.int .u8 t)).1 (k * 3 + 2) (.slice (some ⟨g6, 0, none⟩) m c6)).1
  have hwsz : w.heap.size + 1 < w6.heap.size := by omega
  have s6 := ownsRow_upd s5 hUf (by intro q hq; simp [Value.ownBlock] at hq; omega)
  have s4 := ownsRow_upd (ownsRow_upd M4.out hU12 (by intro q hq; simp [Value.ownBlock] at hq; omega)) hUf (by intro q hq; simp [Value.ownBlock] at hq; omega)
  have hBf : Below w.heap.size w wf := by
    have h1 := hB010.trans (hB11.mono hB010.size)
    refine (hU12.onto h1 h1.size ?_).trans ((hUf.below (B := w.heap.size) ?_ ?_))
    · intro q hq; omega
    · have := hU12.size; have := h1.size; omega
    · intro q hq; omega
  have hlw : w.heap.size < wf.heap.size := by have := lt_of_heap s2'; omega
  have hBS : BS wf (.slice (some ⟨g6, 0, none⟩) m c6) (bs.set q (xorB y z)) := by
    rw [BS, List.length_set, HXL.out]
    exact ownsRow_base s4 (fun _ _ => Nat.zero_le _)
  have hnew : (LX.turned ⟨⟨f, t, some ⟨b, off, none⟩, m, d⟩, bs⟩ (some ⟨g6, 0, none⟩) c6 pl z) = ⟨⟨f, t, some ⟨g6, 0, none⟩, m, c6⟩, bs.set q (xorB y z)⟩ := by
    simp only [LX.turned, HXL.out, HQ.out]
    rw [List.getD_eq_getElem?_getD, HY.out]
    rfl
  refine bodyPost_ret (v := .tuple #[.agg #[.slice (some ⟨g10, 0, none⟩) nl c10, .int .i64 room], .int .i64 0]) (by simp [results, Try.results29, go_sem, e0, e1]) rfl ⟨some ⟨g6, 0, none⟩, c6, some ⟨g10, 0, none⟩, nl, c10, rfl, ⟨RL.of_own (base := w6.heap.size) ?_ (by rw [List.length_set]; exact hnl) ?_, ?_, ?_⟩, hBf⟩
  · rw [hnew, List.map_set]
    exact s6
  · intro x hx
    rcases List.mem_or_eq_of_mem_set hx with hx | rfl
    · exact (HR.out.1.2.2.2.1 x hx).below hBf
    · rw [hnew]; exact hBS.readS
  · intro p hp
    cases hp
    exact .inr ⟨by show w.heap.size ≤ g10; omega, (s6.lt g10 rfl).2⟩
  · intro x hx hd g hg
    rcases List.mem_or_eq_of_mem_set hx with hx | rfl
    · exact .inl (HR.out.2.2 x hx hd g hg)
    · rw [hnew] at hg
      have : g6 = g := by simpa [LX.blk, LX.sv, Value.ownBlock] using hg
      subst this
      exact .inr ⟨by omega, (s4.lt g6 rfl).2⟩

end Go.Proofs.Ytehgbpepaakanaa
