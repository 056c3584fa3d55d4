/-
  RingDrops: the walk.
-/
import Derived.Test.YthehhnlkpcfofaaRoom
import Derived.Maps.AppendAt
import Derived.Deep.RegionLaw
import Derived.Deep.RegionHeldLaw
import Derived.IntWalk
namespace Go.Proofs.Ythehhnlkpcfofaa
open Go.RowKit
set_option linter.unusedVariables false

/-- append to a row of the call's own (or nil), at a step of a region that draws; the source may be empty. -/
theorem step_append_at {P : Program} {w : World} {ops : Array Oper} {o : Oper} {a : Act} {K : Act → World → Prop} {Q : Exit → Act → World → Prop} {E : Prop} (hw : Region.wanted o (yielded ops a.tmps) = true) (s x : Operand) (t : TypeId)
    (ho : o.op = .call { callee := .builtin .append, args := #[s, x], argTypes := #[t, t] })
    (base : Nat) (e : TypeId) (i : TypeInfo) (z : Value) (size bytes : Nat) (ht : P.underlying t = some (.slice e)) (hi : P.info? e = some i) (hz : i.zero = some z)
    (hsize : i.size = size) (hby : i.bytes = bytes) (hzs : z.cells.size = size) (hsz : 0 < size)
    (v : Value) (n : Nat) (xs : List Value) (hs : a.eval s = v) (hown : w.ownsRow base e size v n xs)
    (ad : Addr) (m c : Nat) (news : List Value) (hx : a.eval x = .slice (some ad) m c) (hl : news.length = m * size) (hnews : ∀ j u, news[j]? = some u → w.cell? (ad.add j) = some u) (h1 : ∀ u ∈ news, u.oneCell' = true)
    (h63 : n + m ≤ maxLen) (hbytes : (n + m) * bytes ≤ 140737488355328) (hbase : base ≤ w.heap.size)
    (h : ∀ v' w', w'.ownsRow base e size v' (n + m) (xs ++ news) → w.grownBy w' v.ownBlock → K (a.put o.dst v') w') :
    if Region.wanted o (yielded ops a.tmps) = true then Oper.wp P o a w K Q else E := by
  rw [if_pos hw]
  obtain ⟨v', w', hr, h2, h3, _, h5⟩ := run_append_own_at (P := P) w base t o.type e i z size bytes ht hi hz hsize hby hzs hsz v n xs hown ad m c news hl hnews h1 h63 hbytes hbase
  unfold Oper.wp execOp
  simp only [ho, resolve, invoke, builtin, Sem.run_bind, Sem.run_pure, Result.andThen_ok, List.map_toArray, List.map_cons, List.map_nil, hs, hx, hr]
  exact h v' w' h2 h3

theorem own_slice {w : World} {base e size n : Nat} {v : Value} {xs : List Value} (h : w.ownsRow base e size v n xs) : ∃ a c, v = .slice a n c := by
  rcases h.2 with ⟨rfl, rfl⟩ | ⟨g, cap, cur, rfl, _⟩
  · exact ⟨_, _, rfl⟩
  · exact ⟨_, _, rfl⟩

theorem ints_of_own {base : Nat} {w : World} {a : Option Addr} {n c : Nat} {zs : List Int} (h : w.ownsRow base 2 1 (.slice a n c) n (cellsOf enc1 zs)) (hz : zs.length = n) : Ints .i64 w.heap.size w a zs := by
  rcases h.2 with ⟨h0, h1⟩ | ⟨g, cap, cur, hv, hb, hcur, hnc, hcm, hsz, htake⟩
  · exact .inl (List.length_eq_zero_iff.1 (hz.trans h1))
  · simp only [Value.slice.injEq] at hv
    obtain ⟨rfl, _, rfl⟩ := hv
    refine .inr ⟨g, 0, rfl, lt_of_heap hcur, fun j x hx => ?_⟩
    have hj : j < zs.length := (List.getElem?_eq_some_iff.1 hx).1
    have := cellsOf_at enc1 1 enc1_len zs j 0 x hx (by omega)
    rw [blk_cell hcur, Nat.zero_add]
    rw [← htake, List.getElem?_take, if_pos (by omega)] at this
    simpa [enc1] using this


theorem Ints.get_hid {k : IntKind} {B : Nat} {w : World} {a : Option Addr} {zs : List Int} (h : Ints k B w a zs) (hn : 0 < zs.length) : ∃ b off, a = some ⟨b, off, none⟩ ∧ b < B ∧ ∀ j (x : Int), zs[j]? = some x → w.cell? ⟨b, off + j, none⟩ = some (.int k x) := by
  rcases h with rfl | h
  · cases hn
  · exact h

/-- The cells of a stretch of integers. -/
theorem stretch {w : World} {b off : Nat} {zs : List Int} (hc : ∀ j (x : Int), zs[j]? = some x → w.cell? ⟨b, off + j, none⟩ = some (.int .i64 x)) (i : Nat) (ys : List Int) (hy : ∀ j (x : Int), ys[j]? = some x → zs[i + j]? = some x) :
    ∀ j u, (cellsOf enc1 ys)[j]? = some u → w.cell? ⟨b, off + i + j, none⟩ = some u := by
  intro j u hu
  have hj : j < ys.length := by have := (List.getElem?_eq_some_iff.1 hu).1; rw [cellsOf_length enc1 1 enc1_len] at this; omega
  obtain ⟨x, hx⟩ : ∃ x, ys[j]? = some x := ⟨_, List.getElem?_eq_getElem hj⟩
  have := cellsOf_at enc1 1 enc1_len ys j 0 x hx (by omega)
  simp [enc1] at this
  rw [this] at hu
  cases hu
  rw [Nat.add_assoc]
  exact hc _ _ (hy j x hx)

set_option maxHeartbeats 1000000 in
theorem ringDrops_walk (a0 : Option Addr) (len0 cap0 : Nat) (z0 : List Int) (at_ : Int) (w : World) (w0 : IsRow .i64 w a0 len0 cap0 z0) (wa : (Lit.int .i64 at_).wf = true) :
    Calls Try.prog 8 #[.slice a0 len0 cap0, .int .i64 at_] w fun e w' => e = .returned (.bool true) ∧ Below w.heap.size w w' := by
  obtain ⟨I0, L0, hl0, hm0, wf0⟩ := w0.ints
  generalize z0.take len0 = zs at *
  clear w0 wf0
  have hat := bounds_i64 wa
  have hlen0 : (len0 : Int) ≤ 9223372036854775807 := by omega
  have HI0 := Lib.hid I0
  have HL0 := Lib.hid L0
  obtain ⟨B, hB⟩ : ∃ B, B = w.heap.size := ⟨_, rfl⟩
  clear I0 L0 wa
  by_cases h5 : (500 : Int) < (len0 : Int)
  · go_enter Try.func8, Try.ntmps8
    go_wp2_with fail
    refine (alive_yes _).mono ?_
    rintro e wa ⟨rfl, hBa⟩
    go_wp2_with fail
    refine (new_ok 10000 _ (by decide) (by decide)).mono ?_
    rintro e wn ⟨rfl, hR, hBn⟩
    go_wp2
    go_ret
    exact ⟨rfl, hBa.trans (hBn.mono hBa.size)⟩
  · go_enter Try.func8, Try.ntmps8
    go_wp2_with fail
    refine (alive_yes _).mono ?_
    rintro e wa ⟨rfl, hBa⟩
    go_wp2_with fail
    refine (new_ok 10000 _ (by decide) (by decide)).mono ?_
    rintro e wn ⟨rfl, hR, hBn⟩
    have hB0 : Below B w wn := by rw [hB]; exact hBa.trans (hBn.mono hBa.size)
    have hHb : Hi B wa.heap.size (.slice none 0 0) := Hi.none (by rw [hB]; exact hBa.size)
    have hBs : B ≤ w.heap.size := by omega
    replace hR : RI wn wa.heap.size (.slice none 0 0) 10000 [] := hR
    generalize wa.heap.size = b at *
    clear hBa hBn
    go_wp2_with fail
    go_loopw [23] (fun ix wr => ∃ (k : Nat) (v : Value), k ≤ len0 ∧ ix = .int .i64 k ∧ RI wr b v 10000 (zs.take k) ∧ Hi B b v ∧ Below B w wr) (fun ix _ => len0 - (intOf ix).toNat)
    case atStart => exact ⟨0, _, Nat.zero_le _, rfl, hR, hHb, hB0⟩
    case round =>
      obtain ⟨k, v, hk, rfl, hR, hH, hBw⟩ := hrel
      by_cases hlt : k < len0
      · obtain ⟨x, hx⟩ : ∃ x, zs[k]? = some x := ⟨_, List.getElem?_eq_getElem (by rw [HL0.out]; exact hlt)⟩
        obtain ⟨b0, off0, rfl, hcell⟩ := ((hB ▸ HI0.out).below hBw).get hx
        have HX := Lib.hid (take_snoc2 zs k x hx)
        have hlen : ((zs.take k).length : Int) < 10000 := by rw [List.length_take, HL0.out]; omega
        clear hx
        go_wp2_with fail
        refine (iPush b v 10000 _ x _ hR (by decide) (by decide) hlen).mono ?_
        rintro e w1 ⟨rfl, v1, hR1, hU1, ho1⟩
        have B1 := hU1.onto hBw (Nat.le_trans hBs hBw.size) hH
        have H1 := hH.new (Nat.le_trans hBs hBw.size) ho1
        rw [← HX.out] at hR1
        clear hR hU1 ho1 hH hcell
        go_wp2_with fail
        go_roundw
        case rel => exact ⟨k + 1, v1, by omega, by go_num, hR1, H1, B1⟩
        case measure => simp [intOf]; omega
      · obtain rfl : k = len0 := by omega
        have hz2 : zs.take k = zs := List.take_of_length_le (by rw [HL0.out]; omega)
        rw [hz2] at hR
        have hrl : zs.length * 8 ≤ 140737488351232 := by rw [HL0.out]; omega
        clear hz2
        by_cases hout : at_ < 0 ∨ (k : Int) ≤ at_
        · rcases hout with hout | hout
          · go_wp2_with fail
            refine (iDrop_out b v 10000 zs at_ _ hR (by decide) (.inl hout)).mono ?_
            rintro e w3 ⟨rfl, rfl⟩
            go_wp2_with fail
            refine (same_n b v 10000 zs hrl a0 _ cap0 wr HL0.out hR (by decide) (((hB ▸ HI0.out).below hBw).mono (Nat.le_trans hBs hBw.size))).mono ?_
            rintro e w4 ⟨rfl, hB4⟩
            go_wp2
            go_ret
            exact ⟨rfl, by rw [← hB]; exact hBw.trans (hB4.mono (Nat.le_trans hBs hBw.size))⟩
          · have hout2 : ¬ at_ < 0 := by omega
            go_wp2_with fail
            refine (iDrop_out b v 10000 zs at_ _ hR (by decide) (.inr (by rw [HL0.out]; exact hout))).mono ?_
            rintro e w3 ⟨rfl, rfl⟩
            go_wp2_with fail
            refine (same_n b v 10000 zs hrl a0 _ cap0 wr HL0.out hR (by decide) (((hB ▸ HI0.out).below hBw).mono (Nat.le_trans hBs hBw.size))).mono ?_
            rintro e w4 ⟨rfl, hB4⟩
            go_wp2
            go_ret
            exact ⟨rfl, by rw [← hB]; exact hBw.trans (hB4.mono (Nat.le_trans hBs hBw.size))⟩
        · obtain ⟨i, rfl⟩ := Int.eq_ofNat_of_zero_le (a := at_) (by omega)
          have hi : i < k := by omega
          clear hout
          go_wp2_with fail
          refine (iDrop b v 10000 zs i _ hR (by decide) (by rw [HL0.out]; exact hi)).mono ?_
          rintro e w3 ⟨rfl, v3, hR3, hU3, ho3⟩
          have B3 := hU3.onto hBw (Nat.le_trans hBs hBw.size) hH
          obtain ⟨b0, off0, rfl, hb0, hcs⟩ := ((hB ▸ HI0.out).below B3).get_hid (by rw [HL0.out]; omega)
          clear hU3 ho3 hH hR hBw
          obtain ⟨i0, hi0, hz0, hz1, hz2⟩ := info_parts Try.infoE
          have S1 : Hid (∀ j u, (cellsOf enc1 (zs.take i))[j]? = some u → w3.cell? ⟨b0, off0 + j, none⟩ = some u) :=
            stretch hcs 0 (zs.take i) (fun j x hx => by rw [List.getElem?_take] at hx; split at hx; (rw [Nat.zero_add]; exact hx); cases hx)
          obtain ⟨oA, hA, S2⟩ : ∃ oA : Nat, (if cap0 = i + 1 then some (⟨b0, off0, none⟩ : Addr) else some ⟨b0, off0 + (i + 1), none⟩) = some ⟨b0, oA, none⟩ ∧ Hid (∀ j u, (cellsOf enc1 (zs.drop (i + 1)))[j]? = some u → w3.cell? ⟨b0, oA + j, none⟩ = some u) := by
            by_cases h : cap0 = i + 1
            · refine ⟨off0, by simp [h], fun j u hu => ?_⟩
              have : zs.drop (i + 1) = [] := by rw [List.drop_eq_nil_iff, HL0.out]; omega
              rw [this] at hu; simp [cellsOf] at hu
            · refine ⟨off0 + (i + 1), by simp [h], ?_⟩
              intro j u hu
              exact stretch hcs (i + 1) (zs.drop (i + 1)) (fun j x hx => by rw [List.getElem?_drop] at hx; exact hx) j u hu
          have L1 : Hid ((cellsOf enc1 (zs.take i)).length = i * 1) := by rw [Hid, cellsOf_length enc1 1 enc1_len, List.length_take, HL0.out]; omega
          have L2 : Hid ((cellsOf enc1 (zs.drop (i + 1))).length = (k - (i + 1)) * 1) := by rw [Hid, cellsOf_length enc1 1 enc1_len, List.length_drop, HL0.out]
          have L3 : Hid ((zs.eraseIdx i).length = i + (k - (i + 1))) := by rw [Hid, List.length_eraseIdx_of_lt (by rw [HL0.out]; exact hi), HL0.out]; omega
          have E3 : Hid (cellsOf enc1 (zs.take i) ++ cellsOf enc1 (zs.drop (i + 1)) = cellsOf enc1 (zs.eraseIdx i)) := by rw [Hid, List.eraseIdx_eq_take_drop_succ, cellsOf_append]
          have O1 : Hid (∀ u ∈ cellsOf enc1 (zs.take i), u.oneCell' = true) := enc1_one _
          have O2 : Hid (∀ u ∈ cellsOf enc1 (zs.drop (i + 1)), u.oneCell' = true) := enc1_one _
          have hb3 : b0 < w3.heap.size := Nat.lt_of_lt_of_le hb0 (Nat.le_trans hBs B3.size)
          have HR3 := Lib.hid hR3
          have hsum : IntKind.i64.wrap ((i : Int) + 1) = (i : Int) + 1 := IntWalk.i64_in _ (by omega)
          have hp0 : (0 : Int) ≤ (i : Int) + 1 := by omega
          have hp1 : (i : Int) + 1 ≤ (k : Int) := by omega
          have hpn : ((i : Int) + 1).toNat = i + 1 := by omega
          have hie : (i : Int) ≤ (cap0 : Int) := by omega
          have hin1 : i + 1 ≤ cap0 := by omega
          clear hcs hR3
          go_wp2_with fail
          go_region_held_law (fun w' => Below w3.heap.size w3 w')
            ((first | assumption | exact (Below.refl _ _).drew))
            (first
            | (refine step_append_at rfl (.const (.slice none 0 0)) (.tmp 55) 22 rfl w3.heap.size 2 i0 (.int .i64 0) 1 8 Try.underlying22 hi0 hz0 hz1 hz2 rfl (by decide) (.slice none 0 0) 0 [] rfl (World.ownsRow_nil _ _ _ _) ⟨b0, off0, none⟩ i cap0 (cellsOf enc1 (zs.take i)) rfl L1.out (fun j u hu => by rw [Addr.add_lit]; exact S1.out j u hu) O1.out (by unfold maxLen; omega) (by omega) (Nat.le_refl _) ?_; intro v1 w4 hown4 hgrow4; simp only [Nat.zero_add, List.nil_append] at hown4; have B4 : Below w3.heap.size w3 w4 := ((Below.refl _ _).drew).grown hgrow4 (Nat.le_refl _) (by intro k hk; simp [Value.ownBlock] at hk))
            | (refine step_append_at rfl (.tmp 56) (.tmp 60) 22 rfl w3.heap.size 2 i0 (.int .i64 0) 1 8 Try.underlying22 hi0 hz0 hz1 hz2 rfl (by decide) v1 i _ rfl hown4 ⟨b0, oA, none⟩ (k - (i + 1)) (cap0 - (i + 1)) (cellsOf enc1 (zs.drop (i + 1))) rfl L2.out (fun j u hu => by rw [Addr.add_lit]; exact (B4.cell (p := ⟨b0, oA + j, none⟩) hb3).trans (S2.out j u hu)) O2.out (by unfold maxLen; omega) (by omega) B4.size ?_; intro v2 w5 hown5 hgrow5; have B5 : Below w3.heap.size w3 w5 := B4.grown hgrow5 B4.size (fun k hk => (hown4.lt k hk).1); rw [E3.out] at hown5; obtain ⟨a2, c2, rfl⟩ := own_slice hown5; have HI5 := Lib.hid ((ints_of_own hown5 L3.out)))
            | (go_simp; go_at_call 15; refine (same_n b v3 10000 (zs.eraseIdx i) (by rw [L3.out]; omega) a2 _ c2 _ L3.out (HR3.out.upd (Upd.of_below B5 (fun _ => False)) (fun _ _ h => h)) (by decide) HI5.out).mono ?_; rintro e w6 ⟨rfl, hB6⟩; have B6 : Below w3.heap.size w3 w6 := B5.trans (hB6.mono B5.size)))
          go_wp2
          go_ret
          have hs3 := Nat.le_trans hBs B3.size
          exact ⟨rfl, by rw [← hB]; exact B3.trans (Below.mono (by assumption) hs3)⟩

end Go.Proofs.Ythehhnlkpcfofaa
