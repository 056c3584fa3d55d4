/-
  Air: AirOwn.
-/
import Derived.Test.YtehgbpepaakanaaTurnsW
namespace Go.Proofs.Ytehgbpepaakanaa
open Go.RowKit Go.Joins
set_option linter.unusedVariables false
set_option linter.unusedSimpArgs false

/-- append([]byte(nil), b...): a row of its own. -/
theorem AirHi.write {N : Nat → Prop} {w w' : World} {A : Nat} {room : Int} {st : Nat → List Lt} (h : AirHi N w A room st) (S : Nat → Prop) (hu : Upd S w w') (hs : ∀ k, S k → N k) : AirHi N w' A room st := by
  obtain ⟨P, h1, h2, h3, h4⟩ := h
  exact ⟨P, h1.keep hu (fun k hp hk => h2 k hp (hs k hk)), h2, fun k hk => Nat.lt_of_lt_of_le (h3 k hk) hu.size, h4⟩

theorem BS.some {w : World} {a : Option Addr} {m d : Nat} {bs : List Int} (h : BS w (.slice a m d) bs) (hm : 0 < bs.length) : ∃ g cur, a = some ⟨g, 0, none⟩ ∧ m = bs.length ∧ w.heap[g]? = some (.cells cur 5 (0, 0)) ∧ bs.length ≤ d ∧ ∀ j y, bs[j]? = some y → w.cell? ⟨g, j, none⟩ = some (.int .u8 y) := by
  have hr := h.readS
  rcases h.2 with ⟨_, h1⟩ | ⟨g, cap, cur, hv, hb, hcur, hnc, hcm, hsz, htake⟩
  · omega
  · simp only [Value.slice.injEq] at hv
    obtain ⟨rfl, rfl, rfl⟩ := hv
    refine ⟨g, cur, rfl, rfl, hcur, hnc, fun j y hy => ?_⟩
    rcases hr with ⟨_, _, rfl⟩ | ⟨b, off, e, _, _, _, _, hc⟩
    · simp at hm
    · cases e
      simpa using hc j y hy

/-- Take; the bytes that it hands out were the air's. -/
theorem take_hi2 {N : Nat → Prop} {w : World} {A : Nat} {room : Int} {st : Nat → List Lt} (t i : Nat) (x : Lt) (h : AirHi N w A room st) (ht : t < 17) (hx : (st t)[i]? = some x) :
    Calls Try.prog 12 #[.pointer (some ⟨A, 0, none⟩), .int .u8 t, .int .i64 i] w fun e w' => ∃ a m d, e = .returned (.tuple #[.agg #[.int .u8 x.f, .int .u8 x.t, .slice a m d], .int .i64 0]) ∧ BS w' (.slice a m d) x.bs ∧ Kept N w w' ∧ ∀ g, (Value.slice a m d).ownBlock = some g → ¬ N g := by
  obtain ⟨P, ⟨b, v, L, hA, hP, hst⟩, h2, h3, hr, hr2⟩ := h
  rw [hst t ht] at hx
  obtain ⟨⟨⟨f, tt, a, m, d⟩, bs⟩, hy, rfl⟩ := some_lx hx
  refine (take_ok A room b v L t i f tt a m d bs w hA hr hr2 ht hy).mono ?_
  rintro e w' ⟨rfl, v', hR, hU, ho⟩
  obtain ⟨h1, h2', h3', h4⟩ := hA.drop ht hy hR hU ho
  exact ⟨a, m, d, rfl, h2', hU.mono (fun k _ h => h2 k (hP k (.inr ⟨t, ht, .inl h⟩))), fun g hg => h2 g (hP g (.inr ⟨t, ht, .inr ⟨_, List.mem_of_getElem? hy, hg⟩⟩))⟩

theorem turn_len' (x : Lt) (pl : Nat) (z : Int) : (x.turn pl z).bs.length = x.bs.length := by simp [Lt.turn]

set_option maxHeartbeats 2000000 in
theorem own_true (a : Option Addr) (m d : Nat) (bs : List Int) (pl : Nat) (z : Int) (w : World) (hx : BR w a m d bs) (hin : ∀ y ∈ bs, 0 ≤ y ∧ y ≤ 255) (hz : 0 ≤ z ∧ z ≤ 255) (hpl : pl < 65536) : Calls Try.prog 6 #[.slice a m d, .int .u16 pl, .int .u8 z] w fun e w' => e = .returned (.bool true) ∧ Below w.heap.size w w' := by
  have hlen := hx.len
  have HX := Lib.hid hx
  clear hx
  go_enter Try.func6, Try.ntmps6
  go_wp2_with fail
  refine (alive_is _).mono ?_
  rintro e w1 ⟨rfl, hB1⟩
  by_cases hbig : 4000 < m
  · have hbi : (4000 : Int) < (m : Int) := by omega
    go_wp2_with fail
    go_ret
    exact ⟨rfl, hB1⟩
  have hbi : ¬ (4000 : Int) < (m : Int) := by omega
  by_cases h0 : m = 0
  · subst h0
    go_wp2_with fail
    go_ret
    exact ⟨rfl, hB1⟩
  have h0b : ((m : Int) == 0) = false := by simpa using h0
  by_cases hz0 : z = 0
  · subst hz0
    go_wp2_with fail
    go_ret
    exact ⟨rfl, hB1⟩
  have hzb : (z == 0) = false := by simpa using hz0
  go_wp2_with fail
  refine (new_hi 9 _ (by decide) (by decide)).mono ?_
  rintro e w2 ⟨A, rfl, hA2, hB2⟩
  have hBw : Below w.heap.size w w2 := hB1.trans (hB2.mono hB1.size)
  have hA := hA2.less (N' := fun k => k < w.heap.size) (fun k h => Nat.lt_of_lt_of_le h hB1.size)
  have HA := Lib.hid hA
  clear hA hA2
  obtain ⟨i0, hi0, hz0', hz1, hz2⟩ := info_parts Try.infoB
  obtain ⟨b, off, rfl, hxc⟩ : ∃ b off, a = some ⟨b, off, none⟩ ∧ ∀ j y, bs[j]? = some y → w2.cell? ⟨b, off + j, none⟩ = some (.int .u8 y) := by
    rcases HX.out.below hBw with ⟨h, _⟩ | ⟨b, off, e, _, _, _, _, h⟩
    · exact absurd h h0
    · exact ⟨b, off, e, h⟩
  have hcells : Hid (∀ j u, (cellsOf encB bs)[j]? = some u → w2.cell? ((⟨b, off, none⟩ : Addr).add j) = some u) := by
    intro j u hu
    have hj : j < bs.length := by have := (List.getElem?_eq_some_iff.1 hu).1; rw [cellsOf_length encB 1 encB_len] at this; omega
    obtain ⟨y, hy⟩ : ∃ y, bs[j]? = some y := ⟨_, List.getElem?_eq_getElem hj⟩
    have := cellsOf_at encB 1 encB_len bs j 0 y hy (by omega)
    simp [encB] at this
    rw [this] at hu
    cases hu
    rw [Addr.add_lit]
    exact hxc j y hy
  have HL : Hid ((cellsOf encB bs).length = m * 1) := by rw [Hid, cellsOf_length encB 1 encB_len, hlen]
  have H1 : Hid (∀ u ∈ cellsOf encB bs, u.oneCell' = true) := encB_one bs
  clear hxc
  go_wp2_with (at_builtin; refine wpList_append_own _ rfl _ _ 26 rfl w2.heap.size 5 i0 (.int .u8 0) 1 1 Try.underlying26 hi0 hz0' hz1 hz2 rfl (by decide) _ _ _ rfl (World.ownsRow_nil _ _ _ _) ⟨b, off, none⟩ m d (cellsOf encB bs) rfl ?qc1 ?qc2 ?qc3 ?qc4 ?qc5 ?qc6 ?_)
  case qc1 => exact HL.out
  case qc2 => exact hcells.out
  case qc3 => exact H1.out
  case qc4 => unfold maxLen; omega
  case qc5 => omega
  case qc6 => simp
  intro v' w3 hown hgrow hnil
  have hS3 : BS w3 v' bs := by rw [BS, hlen]; simpa using ownsRow_base hown (fun _ _ => Nat.zero_le _)
  have hB3 : Below w2.heap.size w2 w3 := (Below.refl _ w2).grown hgrow (Nat.le_refl _) (by intro k hk; simp [Value.ownBlock] at hk)
  have hglt := hown.lt
  clear hown hgrow hnil
  obtain ⟨a', d', rfl⟩ := hS3.slice
  obtain ⟨g, cur, rfl, hm', hcur, hnd, hxc⟩ := BS.some hS3 (by omega)
  rw [hlen] at hS3
  have hg2 := (hglt g rfl).1
  have hg3 := (hglt g rfl).2
  have hA3 := HA.out.add hB3 (fun k => k = g) (fun k e => by subst e; exact ⟨hg2, hg3⟩)
  have HA3 := Lib.hid hA3
  have HS3 := Lib.hid hS3
  clear hA3 hS3 hxc hcur hglt
  rw [hlen]
  go_wp2_with fail
  refine (send_hi 1 2 _ m d' bs HA3.out (by decide) (by decide) (by omega) HS3.out.readS (by decide)).mono ?_
  rintro e w4 ⟨rfl, hA4, hK4⟩
  have HA4 := Lib.hid hA4
  clear hA4
  go_wp2_with fail
  refine (again_hi 2 0 ⟨1, 2, bs⟩ HA4.out (by decide) (by rw [upd_same]; rfl) (by show bs.length ≤ 4000; omega) (by rw [upd_same]; simp)).mono ?_
  rintro e w5 ⟨rfl, hA5, hK5⟩
  have hS5 : BS w5 (.slice (some ⟨g, 0, none⟩) m d') bs := (HS3.out.upd hK4 (fun k hk h => h (.inr (by simpa [Value.ownBlock] using hk.symm)))).upd hK5 (fun k hk h => h (.inr (by simpa [Value.ownBlock] using hk.symm)))
  have HA5 := Lib.hid hA5
  have HS5 := Lib.hid hS5
  clear hA5 hS5
  obtain ⟨st5, hst5⟩ : ∃ st5 : Nat → List Lt, st5 = upd (upd (fun _ => []) 2 ([] ++ [⟨1, 2, bs⟩])) 2 (upd (fun _ => []) 2 ([] ++ [(⟨1, 2, bs⟩ : Lt)]) 2 ++ [⟨1, 2, bs⟩]) := ⟨_, rfl⟩
  have hs2 : st5 2 = [⟨1, 2, bs⟩, ⟨1, 2, bs⟩] := by rw [hst5]; rfl
  have HA5' : Hid (AirHi (fun k => k < w.heap.size ∨ k = g) w5 A 9 st5) := by rw [hst5]; exact HA5.out
  have B5 : Below w.heap.size w w5 := hBw.trans ((((hB3.mono hBw.size).trans (Kept.below hK4 (Nat.le_trans hBw.size hB3.size) (fun k h => .inl h)))).trans (Kept.below hK5 (Nat.le_trans (Nat.le_trans hBw.size hB3.size) (Upd.size hK4)) (fun k h => .inl h)))
  clear HA5 HA4 HA3 HA hst5 HS3 hK4 hK5
  go_wp2_with fail
  go_loopw [47] (fun ix wr => ∃ (k : Nat) (ys : List Int), k ≤ m ∧ ix = .int .i64 k ∧ ys.length = m ∧ BS wr (.slice (some ⟨g, 0, none⟩) m d') ys ∧ AirHi (fun k => k < w.heap.size ∨ k = g) wr A 9 st5 ∧ Below w.heap.size w wr) (fun ix _ => m - (intOf ix).toNat)
  case atStart => exact ⟨0, bs, by omega, rfl, hlen, HS5.out, HA5'.out, B5⟩
  case round =>
    clear HS5 HA5' B5
    obtain ⟨k, ys, hk, rfl, hyl, hS, hA, hB⟩ := hrel
    by_cases hlt : k < m
    · obtain ⟨g', cur', e', hm2, hcur, hnd2, hyc⟩ := BS.some hS (by omega)
      cases e'
      obtain ⟨y, hy⟩ : ∃ y, ys[k]? = some y := ⟨_, List.getElem?_eq_getElem (by omega)⟩
      have c0 := hyc k y hy
      have f0 := blk_frozen hcur k
      have hki : (k : Int) < (m : Int) := by omega
      have HSk := Lib.hid hS
      have HAk := Lib.hid hA
      clear hS hA hcur hyc hy hm2
      go_wp2_with fail
      go_roundw
      case rel =>
        refine ⟨k + 1, ys.set k (xorB y 255), by omega, by go_num, by rw [List.length_set]; exact hyl, ?_, HAk.out.write (fun k => k = g) ((Upd.refl (fun k => k = g) wr).setCell ⟨g, k, none⟩ _ (fun _ => rfl)) (fun k h => .inr h), hB.setCell (p := ⟨g, k, none⟩) (show w.heap.size ≤ g by have := hBw.size; omega) _⟩
        have := HSk.out
        rw [← hyl] at this ⊢
        exact BS.write this k (xorB y 255)
      case measure => simp [intOf]; omega
    · obtain rfl : k = m := by omega
      have HAk := Lib.hid hA
      clear hS hA
      go_wp2_with fail
      refine (turn_hi 2 1 ⟨1, 2, bs⟩ pl z HAk.out (by decide) (by rw [hs2]; rfl) (fun e => by subst e; simp at hlen; omega) (by show bs.length ≤ 4000; omega) hpl).mono ?_
      rintro e w6 ⟨rfl, hA6, hK6⟩
      have B6 := hB.trans (hK6.below hB.size (fun k h => .inl h))
      have HA6 := Lib.hid hA6
      clear hA6
      go_wp2_with fail
      refine (take_hi 2 0 ⟨1, 2, bs⟩ HA6.out (by decide) (by rw [upd_same, hs2]; rfl)).mono ?_
      rintro e w7 ⟨a7, m7, d7, rfl, hS7, hA7, hK7⟩
      have B7 := B6.trans (hK7.below B6.size (fun k h => .inl h))
      obtain ⟨w8, hw8, hb8, hB8⟩ := let_box 1 2 a7 m7 d7 w7
      have B8 := B7.trans (hB8.mono B7.size)
      have hA8 := hA7.add hB8 (fun k => k = w7.heap.size) (fun k e => by subst e; exact ⟨Nat.le_refl _, lt_of_heap hb8⟩)
      have HA8 := Lib.hid hA8
      have hR8 := hS7.readS.below hB8
      have HW8 := Lib.hid hw8
      clear hA8 hA7 hw8
      go_wp2_with fail
      rw [HW8.out]
      refine (take_hi2 2 0 ((⟨1, 2, bs⟩ : Lt).turn pl z) HA8.out (by decide) (by rw [upd_same, upd_same, hs2]; rfl)).mono ?_
      rintro e w9 ⟨a9, m9, d9, rfl, hS9, hK9, hN9⟩
      have B9 := B8.trans (hK9.below B8.size (fun k h => .inl (.inl (.inl h))))
      have hR9 := hR8.kept hK9 (fun g h => .inl (.inr h))
      have hb9 := hK9.heap hb8 (.inr rfl)
      have hlt9 := lt_of_heap hb9
      obtain ⟨w10, hw10, hb10, hB10⟩ := let_box ((⟨1, 2, bs⟩ : Lt).turn pl z).f ((⟨1, 2, bs⟩ : Lt).turn pl z).t a9 m9 d9 w9
      have B10 := B9.trans (hB10.mono B9.size)
      have HW10 := Lib.hid hw10
      clear hw10
      obtain ⟨g9, cur9, rfl, hm9, hcur9, hnd9, hc9⟩ := BS.some hS9 (by rw [turn_len']; show 0 < bs.length; omega)
      have hl9 : k = m9 := by rw [hm9, turn_len', ← hlen]
      clear hm9
      subst hl9
      have hb9' := (hB10.block _ hlt9).trans hb9
      have x2 := blk_cell hb9' 2
      have y2 := blk_cell hb10 2
      simp at x2 y2
      have k7 := (hR9.below hB10).str
      have kb := (HX.out.below B10).str
      go_upto_region 18 with fail
      rw [HW10.out]
      have htl : ((⟨1, 2, bs⟩ : Lt).turn pl z).bs.length = k := by rw [turn_len']; exact hlen
      have HTL := Lib.hid htl
      clear htl
      obtain ⟨tb, htb⟩ : ∃ tb, tb = ((⟨1, 2, bs⟩ : Lt).turn pl z).bs := ⟨_, rfl⟩
      have hbackE := congrArg Lt.bs (turn_twice ⟨1, 2, bs⟩ pl z hin hz (fun e => by simp at e; subst e; simp at hlen; omega))
      obtain ⟨q, hq⟩ : ∃ q, q = pl % k := ⟨_, rfl⟩
      have hqk : q < k := hq ▸ Nat.mod_lt _ (by omega)
      have hback : tb.set q (xorB (tb.getD q 0) z) = bs := by
        have h2 : pl % tb.length = q := by rw [hq, htb, HTL.out]
        rw [← h2, htb]
        exact hbackE
      rw [← htb] at hS9 hc9
      have htl : tb.length = k := by rw [htb]; exact HTL.out
      have hget : tb[q]? = some (tb.getD q 0) := by rw [List.getD_eq_getElem?_getD, List.getElem?_eq_getElem (by omega)]; rfl
      obtain ⟨y, hy⟩ : ∃ y, y = tb.getD q 0 := ⟨_, rfl⟩
      rw [← hy] at hback hget
      have hlg9 := lt_of_heap hcur9
      have hcur10 := (hB10.block _ hlg9).trans hcur9
      have c9 : w10.cell? ⟨g9, q, none⟩ = some (.int .u8 y) := (hB10.cell (p := ⟨g9, q, none⟩) hlg9).trans (hc9 q y hget)
      have f9 := blk_frozen hcur10 q
      have hS10 : BS w10 (.slice (some ⟨g9, 0, none⟩) k d9) tb := hS9.upd (Upd.of_below hB10 (fun _ => False)) (fun _ _ h => h)
      have hS11 : BS ((w10.setCell ⟨g9, q, none⟩ (.int .u8 (xorB y z))).drew) (.slice (some ⟨g9, 0, none⟩) k d9) bs := by
        have h := BS.write (htl.symm ▸ hS10) q (xorB y z)
        rw [hback, htl] at h
        exact h
      have hg9w : w.heap.size ≤ g9 := by
        have := hN9 g9 rfl
        exact Nat.le_of_not_lt (fun h => this (.inl (.inl (.inl h))))
      have B11 : Below w.heap.size w ((w10.setCell ⟨g9, q, none⟩ (.int .u8 (xorB y z))).drew) := (B10.setCell (p := ⟨g9, q, none⟩) hg9w _).drew
      have kv := hS11.readS.str
      have kb11 := (HX.out.below B11).str
      have hne : g9 ≠ w9.heap.size := by omega
      have hne2 : w9.heap.size ≠ g9 := by omega
      have hm0 : k ≠ 0 := h0
      have hrem : (IntKind.i64.wrap (pl : Int)).tmod (k : Int) = (q : Int) := by
        rw [IntWalk.i64_in _ (by omega), hq, Int.tmod_eq_emod_of_nonneg (by omega)]
        omega
      have hmod : (pl : Int) % (k : Int) = (q : Int) := by rw [hq]; omega
      have hmodn : pl % k = q := hq.symm
      have hqi : (q : Int) < (k : Int) := by omega
      have HB11 := Lib.hid B11
      clear hq hy htl htb hbackE hback hget hS9 hc9 hS10 hS11 hcur9 hcur10 B11
      go_upto_region 20 with fail
      go_region
      simp only [xorB] at kv kb11 HB11
      clear kb k7
      go_wp2_with fail
      go_ret
      exact ⟨rfl, HB11.out⟩

theorem own_walk (a : Option Addr) (m d : Nat) (zs : List Int) (pl z : Int) (w : World) (hx : IsRow .u8 w a m d zs) (hp : (Lit.int .u16 pl).wf = true) (hz : (Lit.int .u8 z).wf = true) : Calls Try.prog 6 #[.slice a m d, .int .u16 pl, .int .u8 z] w fun e w' => e = .returned (.bool true) ∧ Below w.heap.size w w' := by
  have h3 := bounds_u16 hp
  obtain ⟨pl, rfl⟩ := Int.eq_ofNat_of_zero_le h3.1
  obtain ⟨h1, h2, h4, h5, h6⟩ := hx.ints
  refine own_true a m d (zs.take m) pl z w ?_ (fun y hy => bounds_u8 (h6 y hy)) (bounds_u8 hz) (by omega)
  rcases hx with ⟨rfl, rfl, rfl, rfl⟩ | ⟨x, rfl, hl, hm, hzl, hc, hw⟩
  · exact .inl ⟨rfl, rfl, rfl⟩
  · by_cases h0 : d = 0
    · subst h0
      obtain rfl : m = 0 := by omega
      exact .inl ⟨rfl, rfl, by simp⟩
    · have c0 := hc 0 (by omega)
      obtain ⟨b, off, spot⟩ := x
      have hspot : spot = none := by simpa [Addr.add] using World.cell?_spot c0
      subst hspot
      refine .inr ⟨b, off, rfl, by simpa [Addr.add] using World.block_lt_of_cell? w _ c0, h2, hl, (by omega), fun j y hy => ?_⟩
      have hjl : j < zs.length := by
        have := (List.getElem?_eq_some_iff.1 hy).1
        simp at this
        omega
      have := hc j hjl
      simp only [Addr.add_lit] at this
      rw [this, List.getD_eq_getElem?_getD]
      rw [List.getElem?_take] at hy
      split at hy
      · rw [hy]; rfl
      · cases hy

end Go.Proofs.Ytehgbpepaakanaa
