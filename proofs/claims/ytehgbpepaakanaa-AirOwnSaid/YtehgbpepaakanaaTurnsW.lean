/-
  Air: AirTurns.
-/
import Derived.Test.YtehgbpepaakanaaO2
namespace Go.Proofs.Ytehgbpepaakanaa
open Go.RowKit Go.Joins
set_option linter.unusedVariables false
set_option linter.unusedSimpArgs false

def let2 (x : SB) : Lt := ⟨0, 2, x.bs⟩
theorem take_more {β : Type} (f : SB → β) (xs : List SB) (k : Nat) (x : SB) (hx : xs[k]? = some x) : (xs.take (k + 1)).map f = (xs.take k).map f ++ [f x] := by
  rw [List.take_add_one, hx]; simp
theorem erase_last {β : Type} (l : List β) (x : β) : (l ++ [x]).eraseIdx l.length = l := by
  induction l with
  | nil => rfl
  | cons a l ih => simp [ih]
theorem set_same {β : Type} (l : List β) (i : Nat) (x : β) (h : l[i]? = some x) : l.set i x = l := by
  apply List.ext_getElem?
  intro n
  rw [List.getElem?_set]
  by_cases e : i = n
  · subst e
    rw [if_pos rfl, if_pos (List.getElem?_eq_some_iff.1 h).1, h]
  · rw [if_neg e]
theorem turn_twice (x : Lt) (pl : Nat) (z : Int) (hx : ∀ y ∈ x.bs, 0 ≤ y ∧ y ≤ 255) (hz : 0 ≤ z ∧ z ≤ 255) (h0 : x.bs ≠ []) : (x.turn pl z).turn pl z = x := by
  obtain ⟨f, t, bs⟩ := x
  have hq : pl % bs.length < bs.length := Nat.mod_lt _ (List.length_pos_iff.2 h0)
  have hget : bs[pl % bs.length]? = some bs[pl % bs.length] := List.getElem?_eq_getElem hq
  have hD : bs.getD (pl % bs.length) 0 = bs[pl % bs.length] := by rw [List.getD_eq_getElem?_getD, hget]; rfl
  have hy := hx _ (List.getElem_mem hq)
  simp only [Lt.turn, List.length_set, hD]
  rw [List.getD_eq_getElem?_getD, List.getElem?_set_self hq]
  simp only [Option.getD_some, List.set_set]
  rw [xorB_twice _ _ hy hz, set_same _ _ _ hget]
theorem turn_len (x : Lt) (pl : Nat) (z : Int) : (x.turn pl z).bs.length = x.bs.length := by simp [Lt.turn]

theorem turn_any {N : Nat → Prop} {w : World} {A : Nat} {room : Int} {st : Nat → List Lt} (t i : Nat) (y : Lt) (pl : Nat) (z : Int) (h : AirHi N w A room st) (ht : t < 17) (hx : (st t)[i]? = some y) (hm2 : y.bs.length ≤ 4000) (hpl : pl < 65536) (E : Int) (hE : E = if y.bs.length = 0 then 7 else 0) :
    Calls Try.prog 19 #[.pointer (some ⟨A, 0, none⟩), .int .u8 t, .int .i64 i, .int .u16 pl, .int .u8 z] w fun e w' => e = .returned (.int .i64 E) ∧ ∃ st', AirHi N w' A room st' ∧ Kept N w w' ∧ st' t = (if y.bs.length = 0 then st t else (st t).set i (y.turn pl z)) := by
  by_cases h0 : y.bs.length = 0
  · rw [hE, if_pos h0, if_pos h0]
    refine (turn_none_hi t i y pl z h ht hx (List.length_eq_zero_iff.1 h0)).mono ?_
    rintro e w' ⟨rfl, h1, h2⟩
    exact ⟨rfl, st, h1, h2, rfl⟩
  · rw [hE, if_neg h0, if_neg h0]
    refine (turn_hi t i y pl z h ht hx (fun e => h0 (by rw [e]; rfl)) hm2 hpl).mono ?_
    rintro e w' ⟨rfl, h1, h2⟩
    exact ⟨rfl, _, h1, h2, upd_same _ _ _⟩

theorem two_turns (l l3 l4 : List Lt) (q : Nat) (y : Lt) (pl : Nat) (z : Int) (hq : l[q]? = some y) (hy : ∀ b ∈ y.bs, 0 ≤ b ∧ b ≤ 255) (hz : 0 ≤ z ∧ z ≤ 255) (h3 : l3 = if y.bs.length = 0 then l else l.set q (y.turn pl z)) :
    ∃ y3 : Lt, l3[q]? = some y3 ∧ y3.bs.length = y.bs.length ∧ (l4 = (if y3.bs.length = 0 then l3 else l3.set q (y3.turn pl z)) → l4 = l) := by
  have hql : q < l.length := (List.getElem?_eq_some_iff.1 hq).1
  by_cases h0 : y.bs.length = 0
  · rw [if_pos h0] at h3
    subst h3
    exact ⟨y, hq, rfl, fun h => by rw [if_pos h0] at h; exact h⟩
  · rw [if_neg h0] at h3
    subst h3
    refine ⟨y.turn pl z, List.getElem?_set_self hql, turn_len _ _ _, fun h => ?_⟩
    rw [turn_len, if_neg h0, List.set_set, turn_twice y pl z hy hz (fun e => h0 (by rw [e]; rfl)), set_same _ _ _ hq] at h
    exact h

set_option maxHeartbeats 2000000 in
theorem turns_true (a : Option Addr) (n cap : Nat) (xs : List SB) (c : Nat) (z : Int) (pl : Nat) (w : World) (hx : Bs2 w a xs) (hn : xs.length = n) (hc : c ≤ 255) (hz : 0 ≤ z ∧ z ≤ 255) (hpl : pl < 65536) : Calls Try.prog 8 #[.slice a n cap, .agg #[.int .u8 c, .int .u8 z], .int .u16 pl] w fun e w' => e = .returned (.bool true) ∧ Below w.heap.size w w' := by
  have HX := Lib.hid hx
  clear hx
  go_enter Try.func8, Try.ntmps8
  go_wp2_with fail
  obtain ⟨w0, hw0⟩ : ∃ w0, w.alloc (.cells #[.int .u8 (c : Int), .int .u8 z] 59) = w0 := ⟨_, rfl⟩
  have hb0 : w0.heap[w.heap.size]? = some (.cells #[.int .u8 (c : Int), .int .u8 z] 59 (0, 0)) := by rw [← hw0]; exact heap_alloc_new w _
  have hB0 : Below w.heap.size w w0 := by rw [← hw0]; exact (Below.refl _ w).alloc (Nat.le_refl _) _
  rw [hw0]
  have hl0 := lt_of_heap hb0
  clear hw0
  refine (alive_is _).mono ?_
  rintro e w1 ⟨rfl, hB1⟩
  have hb1 := (hB1.block _ hl0).trans hb0
  have hl1 := lt_of_heap hb1
  have x0 := blk_cell hb1 0
  have x1 := blk_cell hb1 1
  simp at x0 x1
  have hBw1 : Below w.heap.size w w1 := hB0.trans (hB1.mono hB0.size)
  clear hb0 hb1
  go_upto_region 3 with fail
  go_region
  go_wp2_with fail
  refine (new_hi 1000 _ (by decide) (by decide)).mono ?_
  rintro e w2 ⟨A, rfl, hA2, hB2⟩
  replace hB2 : Below w1.heap.size w1 w2 := ((Below.refl _ w1).drew).trans hB2
  have hBw : Below w.heap.size w w2 := hBw1.trans (hB2.mono hBw1.size)
  have hA := hA2.less (N' := fun k => k < w.heap.size) (fun k h => Nat.lt_of_lt_of_le h hBw1.size)
  clear x0 x1
  by_cases h0 : n = 0
  · subst h0
    go_wp2_with fail
    go_ret
    exact ⟨rfl, hBw⟩
  by_cases h1 : 100 < n
  · have h1i : (100 : Int) < (n : Int) := by omega
    have h0i : (n : Int) ≠ 0 := by omega
    go_wp2_with fail
    go_ret
    exact ⟨rfl, hBw⟩
  · have h1i : ¬ (100 : Int) < (n : Int) := by omega
    have h0i : (n : Int) ≠ 0 := by omega
    have hbe : ((n : Int) == 0) = false := by simpa using h0i
    have HA := Lib.hid hA
    clear hA hA2 hB1 hB2 hB0
    go_wp2_with fail
    go_loopw [43] (fun ix wr => ∃ (k : Nat) (st : Nat → List Lt), k ≤ n ∧ ix = .int .i64 k ∧ AirHi (fun k => k < w.heap.size) wr A 1000 st ∧ st 2 = (xs.take k).map let2 ∧ (∀ x ∈ xs.take k, x.m ≤ 4000) ∧ Below w.heap.size w wr) (fun ix _ => n - (intOf ix).toNat)
    case atStart => exact ⟨0, _, by omega, rfl, HA.out, rfl, by simp, hBw⟩
    case round =>
      obtain ⟨k, st, hk, rfl, hA, hst, hsm, hB⟩ := hrel
      by_cases hlt : k < n
      · obtain ⟨x, hx⟩ : ∃ x, xs[k]? = some x := ⟨_, List.getElem?_eq_getElem (hn ▸ hlt)⟩
        obtain ⟨b0, off, rfl, hc, hbr, hin⟩ := (HX.out.below hB).get hx
        have hki : (k : Int) < (n : Int) := by omega
        have HAk := Lib.hid hA
        have HS := Lib.hid hst
        have HXk := Lib.hid hx
        have HBR := Lib.hid hbr
        have HSM := Lib.hid hsm
        clear hA hst hx hbr hin hsm
        by_cases hm : x.m ≤ 4000
        · have hmi : ¬ (4000 : Int) < (x.m : Int) := by omega
          go_wp2_with fail
          refine (send_hi 0 2 x.a x.m x.d x.bs HAk.out (by decide) (by decide) hm HBR.out (by rw [HS.out, List.length_map, List.length_take]; omega)).mono ?_
          rintro e w3 ⟨rfl, hA3, hK3⟩
          go_wp2_with fail
          go_roundw
          case rel =>
            refine ⟨k + 1, _, by omega, by go_num, hA3, by rw [upd_same, HS.out, take_more let2 xs k x HXk.out]; rfl, fun y hy => ?_, hB.trans (hK3.below hB.size (fun k h => h))⟩
            rw [List.take_add_one, HXk.out] at hy
            rcases List.mem_append.1 hy with hy | hy
            · exact HSM.out y hy
            · simp at hy; subst hy; exact hm
          case measure => simp [intOf]; omega
        · have hmi : (4000 : Int) < (x.m : Int) := by omega
          go_wp2_with fail
          go_ret
          exact ⟨rfl, hB⟩
      · obtain rfl : k = n := by omega
        rw [List.take_of_length_le (by omega)] at hst hsm
        obtain ⟨q, hq⟩ : ∃ q : Nat, q = c % k := ⟨_, rfl⟩
        have hqk : q < k := hq ▸ Nat.mod_lt _ (by omega)
        obtain ⟨x, hx⟩ : ∃ x, xs[q]? = some x := ⟨_, List.getElem?_eq_getElem (hn ▸ hqk)⟩
        have hrem : (IntKind.i64.wrap (c : Int)).tmod (k : Int) = (q : Int) := by
          rw [IntWalk.i64_in _ (by omega), hq, Int.tmod_eq_emod_of_nonneg (by omega)]
          omega
        have hmod : (c : Int) % (k : Int) = (q : Int) := by rw [hq]; omega
        have hsx : (st 2)[q]? = some (let2 x) := by rw [hst, List.getElem?_map, hx]; rfl
        have hxm : x.m ≤ 4000 := hsm x (List.mem_of_getElem? hx)
        obtain ⟨b0, off, rfl, hc, hbr, hin⟩ := (HX.out.below hB).get hx
        have hxl := hbr.len
        have HAk := Lib.hid hA
        have HS := Lib.hid hst
        have HXk := Lib.hid hx
        have HSX := Lib.hid hsx
        have HBR := Lib.hid hbr
        have HIN := Lib.hid hin
        obtain ⟨E, hE⟩ : ∃ E : Int, E = if x.bs.length = 0 then 7 else 0 := ⟨_, rfl⟩
        have hEb : (E == (0 : Int)) = decide (0 < (x.m : Int)) := by
          rw [hE, hxl]
          by_cases h : x.m = 0
          · simp [h]
          · rw [if_neg h]; simp; omega
        have HE := Lib.hid hE
        have hq2 : (q : Int) < (k : Int) := by omega
        clear hA hst hx hbr hin hsm hsx hc hq hE
        go_upto_region 14 with fail
        simp only [hmod]
        go_wp2_with fail
        refine (turn_any 2 q (let2 x) pl z HAk.out (by decide) HSX.out (by show x.bs.length ≤ 4000; omega) hpl E HE.out).mono ?_
        rintro e w3 ⟨rfl, st3, hA3, hK3, hst3⟩
        have B3 := hB.trans (hK3.below hB.size (fun k h => h))
        have HX3 := Lib.hid (HX.out.below B3)
        have hc3 : w3.cell? ⟨b0, off + q, none⟩ = some (.slice x.a x.m x.d) := by
          obtain ⟨b', off', e, h, _⟩ := HX3.out.get HXk.out
          cases e
          exact h
        have HA3 := Lib.hid hA3
        have HS3 := Lib.hid hst3
        clear hA3 hst3
        go_wp2_with fail
        obtain ⟨y3, hy3, hl3, hback⟩ := two_turns (st 2) (st3 2) (st3 2) q (let2 x) pl z HSX.out HIN.out hz HS3.out
        refine (turn_any 2 q y3 pl z HA3.out (by decide) hy3 (by rw [hl3]; show x.bs.length ≤ 4000; omega) hpl E (by rw [hl3]; exact HE.out)).mono ?_
        rintro e w4 ⟨rfl, st4, hA4, hK4, hst4⟩
        have hst4' : st4 2 = st 2 := by
          obtain ⟨y3', hy3', hl3', hback'⟩ := two_turns (st 2) (st3 2) (st4 2) q (let2 x) pl z HSX.out HIN.out hz HS3.out
          rw [hy3] at hy3'
          cases hy3'
          exact hback' hst4
        have B4 := B3.trans (hK4.below B3.size (fun k h => h))
        have HA4 := Lib.hid hA4
        have HS4 := Lib.hid hst4'
        clear hst4 hst4' hA4 hback hy3
        go_wp2_with fail
        refine (again_hi 2 q (let2 x) HA4.out (by decide) (by rw [HS4.out]; exact HSX.out) (by show x.bs.length ≤ 4000; omega) (by rw [HS4.out, HS.out, List.length_map]; omega)).mono ?_
        rintro e w5 ⟨rfl, hA5, hK5⟩
        have B5 := B4.trans (hK5.below B4.size (fun k h => h))
        have HA5 := Lib.hid hA5
        clear hA5
        go_wp2_with fail
        refine (take_hi 2 k (let2 x) HA5.out (by decide) (by rw [upd_same, HS4.out, HS.out, List.getElem?_append_right (by simp; omega)]; simp [hn])).mono ?_
        rintro e w6 ⟨a6, m6, d6, rfl, hS6, hA6, hK6⟩
        have B6 := B5.trans (hK6.below B5.size (fun k h => h))
        have hA6' := hA6.less (N' := fun k => k < w.heap.size) (fun k h => .inl h)
        have hst6 : (upd (upd st4 2 (st4 2 ++ [let2 x])) 2 ((upd st4 2 (st4 2 ++ [let2 x]) 2).eraseIdx k)) 2 = (xs.drop 0).map let2 := by
          rw [upd_same, upd_same, HS4.out, HS.out]
          have := erase_last (xs.map let2) (let2 x)
          rw [List.length_map, hn] at this
          exact this
        obtain ⟨st6, hst6e⟩ : ∃ st6, (upd (upd st4 2 (st4 2 ++ [let2 x])) 2 ((upd st4 2 (st4 2 ++ [let2 x]) 2).eraseIdx k)) = st6 := ⟨_, rfl⟩
        rw [hst6e] at hA6' hst6
        have HA6 := Lib.hid hA6'
        have HS6 := Lib.hid hst6
        clear hst6e hA6 hA6' hst6 hS6 hc3
        have hq0 : Hid (∀ wq, w6.alloc (.cells #[.int .u8 (let2 x).f, .int .u8 (let2 x).t, .slice a6 m6 d6] 30) = wq → AirHi (fun k => k < w.heap.size) wq A 1000 st6 ∧ Below w.heap.size w wq) := by
          rintro wq rfl
          have hb := (Below.refl _ w6).alloc (Nat.le_refl _) (.cells #[.int .u8 (let2 x).f, .int .u8 (let2 x).t, .slice a6 m6 d6] 30)
          exact ⟨HA6.out.below hb, B6.trans (hb.mono B6.size)⟩
        go_wp2_with fail
        go_loopw [106] (fun ix wr => ∃ (j : Nat) (st : Nat → List Lt), j ≤ k ∧ ix = .int .i64 j ∧ AirHi (fun k => k < w.heap.size) wr A 1000 st ∧ st 2 = (xs.drop j).map let2 ∧ Below w.heap.size w wr) (fun ix _ => k - (intOf ix).toNat)
        case atStart => exact ⟨0, st6, by omega, rfl, (hq0.out _ rfl).1, HS6.out, (hq0.out _ rfl).2⟩
        case round =>
          clear hq0 HS6 HA6 HA5 HA4 HA3 HX3 HS4 HS3 B6 B5 B4 B3 hK3 hK4 hK5 hK6 hB HS HAk
          obtain ⟨j, st2, hj, rfl, hA, hst, hB⟩ := hrel
          by_cases hlt2 : j < k
          · obtain ⟨y, hy⟩ : ∃ y, xs[j]? = some y := ⟨_, List.getElem?_eq_getElem (hn ▸ hlt2)⟩
            obtain ⟨hcy, hby⟩ : wr.cell? ⟨b0, off + j, none⟩ = some (.slice y.a y.m y.d) ∧ BR w y.a y.m y.d y.bs := by
              constructor
              · obtain ⟨b', off', e, h, _⟩ := (HX.out.below hB).get hy
                cases e
                exact h
              · obtain ⟨_, _, _, _, h, _⟩ := HX.out.get hy
                exact h
            have hki : (j : Int) < (k : Int) := by omega
            have hst' : st2 2 = let2 y :: (xs.drop (j + 1)).map let2 := by rw [hst, drop_cons' xs j y hy]; rfl
            have HAj := Lib.hid hA
            have HSj := Lib.hid hst'
            have HBY := Lib.hid hby
            clear hA hst hy hby hst'
            go_wp2_with fail
            refine (take_hi 2 0 (let2 y) HAj.out (by decide) (by rw [HSj.out]; rfl)).mono ?_
            rintro e w3 ⟨a3, m3, d3, rfl, hS3, hA3, hK3⟩
            obtain ⟨w4, hw4, hb4, hB4⟩ := let_box (let2 y).f (let2 y).t a3 m3 d3 w3
            have hA4 := hA3.below hB4
            have B3 := hB.trans (hK3.below hB.size (fun k h => h))
            have B4 := B3.trans (hB4.mono B3.size)
            have k4 : (convert 26 9 (.slice a3 m3 d3)).run Try.prog w4 = .ok (.string (strOfNums y.bs)) w4 := (hS3.readS.below hB4).str
            have kx := (HBY.out.below B4).str
            have y2 := blk_cell hb4 2
            simp at y2
            have HW4 := Lib.hid hw4
            have HA4 := Lib.hid hA4
            clear hw4 hA4 hA3 hS3 hb4
            go_upto_region 24 with fail
            rw [HW4.out]
            go_wp2_with fail
            go_roundw
            case rel => exact ⟨j + 1, _, by omega, by go_num, HA4.out.less (fun k h => .inl h), by rw [upd_same, HSj.out]; rfl, B4⟩
            case measure => simp [intOf]; omega
          · obtain rfl : j = k := by omega
            have h0 : (st2 2).length = 0 := by rw [hst, List.drop_of_length_le (by omega)]; rfl
            have HAj := Lib.hid hA
            clear hA hst
            go_wp2_with fail
            refine (len_hi 2 HAj.out (by decide)).mono ?_
            rintro e w3 ⟨rfl, rfl⟩
            rw [h0]
            go_wp2_with fail
            go_ret
            exact ⟨rfl, hB⟩

theorem turns_walk (a : Option Addr) (n cap : Nat) (xs : List SB) (c z : Int) (pl : Int) (w : World) (hx : Bs2 w a xs) (hn : xs.length = n) (hn2 : (n : Int) ≤ 9223372036854775807) (hc : (Lit.int .u8 c).wf = true) (hz : (Lit.int .u8 z).wf = true) (hp : (Lit.int .u16 pl).wf = true) : Calls Try.prog 8 #[.slice a n cap, .agg #[.int .u8 c, .int .u8 z], .int .u16 pl] w fun e w' => e = .returned (.bool true) ∧ Below w.heap.size w w' := by
  have h1 := bounds_u8 hc
  have h3 := bounds_u16 hp
  obtain ⟨c, rfl⟩ := Int.eq_ofNat_of_zero_le h1.1
  obtain ⟨pl, rfl⟩ := Int.eq_ofNat_of_zero_le h3.1
  exact turns_true a n cap xs c z pl w hx hn (by omega) (bounds_u8 hz) (by omega)

end Go.Proofs.Ytehgbpepaakanaa
