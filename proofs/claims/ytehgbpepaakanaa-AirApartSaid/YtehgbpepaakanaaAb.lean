/-
  The law of air: AirApart, the walk.
-/
import Derived.Test.YtehgbpepaakanaaAa
namespace Go.Proofs.Ytehgbpepaakanaa
open Go.RowKit Go.Joins
set_option linter.unusedVariables false
set_option linter.unusedSimpArgs false

theorem two_new {W w1 w2 : World} {A B : Nat} (hA : AirHi (fun k => k < W.heap.size) w1 A 50 (fun _ => [])) (hB : AirHi (fun k => k < w1.heap.size) w2 B 50 (fun _ => [])) (hb : Below w1.heap.size w1 w2) (hW : W.heap.size ≤ w1.heap.size) : Two (fun q => q < W.heap.size) w2 A B (fun _ => []) (fun _ => []) := by
  obtain ⟨PA, a1, a2, a3⟩ := hA.parts
  obtain ⟨PB, b1, b2, b3⟩ := hB.parts
  have hs := hb.size
  exact ⟨PA, PB, a1.below hb, b1, a2, fun k hk h => b2 k hk (by show k < w1.heap.size; omega), fun k hk hp => b2 k hp (a3 k hk), fun k hk => by omega, fun k hk => Nat.lt_of_lt_of_le (a3 k hk) hs, b3⟩

/-- How the law's loop stands: both airs have the same letters to the end. -/
def PairAt (W : World) (A B E : Nat) (wr : World) : Prop :=
  ∃ sa sb, Two (fun q => q < W.heap.size) wr A B sa sb ∧ Good sa ∧ Good sb ∧ sa E = sb E ∧ Below W.heap.size W wr
theorem PairAt.below {W w w' : World} {A B E : Nat} (h : PairAt W A B E w) (hb : Below w.heap.size w w') : PairAt W A B E w' := by
  obtain ⟨sa, sb, h1, h2, h3, h4, h5⟩ := h
  exact ⟨sa, sb, h1.below hb, h2, h3, h4, h5.trans (hb.mono h5.size)⟩

/-- New blocks are none of the airs'. -/
theorem Two.add {N : Nat → Prop} {w w' : World} {A B : Nat} {sa sb : Nat → List Lt} (h : Two N w A B sa sb) (hb : Below w.heap.size w w') (M : Nat → Prop) (hM : ∀ k, M k → w.heap.size ≤ k ∧ k < w'.heap.size) : Two (fun k => N k ∨ M k) w' A B sa sb := by
  obtain ⟨PA, PB, h1, h2, h3, h4, h5, h6, h7, h8⟩ := h
  have hs := hb.size
  refine ⟨PA, PB, h1.below hb, h2.below hb, fun k hk hn => ?_, fun k hk hn => ?_, h5, fun k hk => ?_, fun k hk => Nat.lt_of_lt_of_le (h7 k hk) hs, fun k hk => Nat.lt_of_lt_of_le (h8 k hk) hs⟩
  · rcases hn with hn | hn
    · exact h3 k hk hn
    · have := (hM k hn).1; have := h7 k hk; omega
  · rcases hn with hn | hn
    · exact h4 k hk hn
    · have := (hM k hn).1; have := h8 k hk; omega
  · rcases hk with hk | hk
    · exact Nat.lt_of_lt_of_le (h6 k hk) hs
    · exact (hM k hk).2
theorem Two.lenOf {N : Nat → Prop} {w : World} {A B : Nat} {sa sb : Nat → List Lt} (h : Two N w A B sa sb) (t : Nat) (ht : t < 17) : Go.Proofs.Ytehgbpepaakanaa.lenOf w A t = (sa t).length := by
  obtain ⟨PA, PB, h1, _⟩ := h
  exact h1.lenOf t ht
theorem Good.rest {st : Nat → List Lt} (h : Good st) {t : Nat} {y : Lt} {r : List Lt} (ht : t < 17) (hy : st t = y :: r) : Good (upd st t r) := by
  intro j hj x hx
  by_cases e : j = t
  · subst e; rw [upd_same] at hx; exact h j hj x (by rw [hy]; exact List.mem_cons_of_mem _ hx)
  · rw [upd_other _ _ e] at hx; exact h j hj x hx

/-- Both take an act, or the first alone. -/
theorem stepL_same {sa sb : Nat → List Lt} {E : Nat} (h : sa E = sb E) (k f : Int) (bs : List Int) (i : Int) (pl : Nat) (z : Int) : upd sa E (stepL 50 k f E (sa E) bs i pl z) E = upd sb E (stepL 50 k f E (sb E) bs i pl z) E := by
  rw [upd_same, upd_same, h]

set_option maxHeartbeats 2000000 in
theorem apart_true (a : Option Addr) (n cap : Nat) (xs : List Ac) (en : Nat) (w : World) (hx : Acts w a xs) (hn : xs.length = n) (hn2 : (n : Int) ≤ 9223372036854775807) (hen : en ≤ 255) : Calls Try.prog 5 #[.slice a n cap, .int .u8 en] w fun e w' => e = .returned (.bool true) ∧ Below w.heap.size w w' := by
  have HX := Lib.hid hx
  clear hx
  go_enter Try.func5, Try.ntmps5
  go_wp2_with fail
  refine (alive_is _).mono ?_
  rintro e w1 ⟨rfl, hB1⟩
  go_wp2_with fail
  refine (new_hi 50 _ (by decide) (by decide)).mono ?_
  rintro e w2 ⟨A, rfl, hA2, hB2⟩
  go_wp2_with fail
  refine (new_hi 50 _ (by decide) (by decide)).mono ?_
  rintro e w3 ⟨B, rfl, hA3, hB3⟩
  obtain ⟨E, hEe⟩ : ∃ E : Nat, E = en % 17 := ⟨_, rfl⟩
  have hE : (en : Int) % 17 = (E : Int) := by omega
  have hE17 : E < 17 := by omega
  have hBw : Below w.heap.size w w2 := hB1.trans (hB2.mono hB1.size)
  have hP : PairAt w A B E w3 := ⟨_, _, two_new (hA2.less (N' := fun k => k < w.heap.size) (fun k h => Nat.lt_of_lt_of_le h hB1.size)) hA3 hB3 hBw.size, fun i hi x hx => (by cases hx), fun i hi x hx => (by cases hx), rfl, hBw.trans (hB3.mono hBw.size)⟩
  have HP := Lib.hid hP
  clear hP hA2 hA3 hB1 hB2 hB3 hBw hEe
  go_wp2_with fail
  simp only [hE]
  clear hE
  go_loopw [7] (fun ix wr => ∃ j : Nat, j ≤ n ∧ j ≤ 80 ∧ ix = .int .i64 j ∧ PairAt w A B E wr) (fun ix _ => n - (intOf ix).toNat)
  case atStart => exact ⟨0, by omega, by omega, rfl, HP.out⟩
  case round =>
    clear HP
    obtain ⟨j, hj, hj80, rfl, hP⟩ := hrel
    have hB : Below w.heap.size w wr := hP.choose_spec.choose_spec.2.2.2.2
    have HP := Lib.hid hP
    clear hP
    by_cases hlt : j < n ∧ j < 80
    · obtain ⟨hlt, hlt80⟩ := hlt
      obtain ⟨x, hx⟩ : ∃ x, xs[j]? = some x := ⟨_, List.getElem?_eq_getElem (hn ▸ hlt)⟩
      have hX := HX.out.below hB
      have HBW : Hid (BR w x.a x.m x.d x.bs) := by obtain ⟨_, _, _, _, h, _⟩ := HX.out.get hx; exact h
      obtain ⟨b0, off, rfl, ⟨c0, c1, c2, c3, c4, c5, c6⟩, hbr, hx2, hxpl⟩ := hX.get hx
      have hji : (j : Int) < (n : Int) := by omega
      have hj8 : (j : Int) < 80 := by omega
      have HXk := Lib.hid hx
      clear hX hbr hx hB
      go_wp2_with fail
      refine (few_is x.k x.f x.t x.a x.m x.d x.i x.pl x.z wr).mono ?_
      rintro e w4 ⟨rfl, hB4⟩
      have HP4 := Lib.hid (HP.out.below hB4)
      by_cases hm4 : (x.m : Int) ≤ 4100
      all_goals (first | (have hd4 : decide ((x.m : Int) ≤ 4100) = true := by simpa using hm4) | (have hd4 : decide ((x.m : Int) ≤ 4100) = false := by simpa using hm4))
      all_goals simp only [hd4]
      · obtain ⟨sa, sb, hT, hga, hgb, hE, hBw⟩ := HP4.out
        have lay : ∀ w', Below w.heap.size w w' → ∃ (_ : w'.cell? ⟨b0, off + j * 7, none⟩ = some (.int .u8 x.k)) (_ : w'.cell? ⟨b0, off + j * 7 + 1, none⟩ = some (.int .u8 x.f)) (_ : w'.cell? ⟨b0, off + j * 7 + 2, none⟩ = some (.int .u8 x.t)) (_ : w'.cell? ⟨b0, off + j * 7 + 3, none⟩ = some (.slice x.a x.m x.d)) (_ : w'.cell? ⟨b0, off + j * 7 + 4, none⟩ = some (.int .i64 x.i)) (_ : w'.cell? ⟨b0, off + j * 7 + 5, none⟩ = some (.int .u16 x.pl)), w'.cell? ⟨b0, off + j * 7 + 6, none⟩ = some (.int .u8 x.z) := by
          intro w' hb
          obtain ⟨b9, off9, e9, ⟨k0, k1, k2, k3, k4, k5, k6⟩, _⟩ := (HX.out.below hb).get HXk.out
          cases e9
          exact ⟨k0, k1, k2, k3, k4, k5, k6⟩
        have HLAY := Lib.hid lay
        obtain ⟨k0, k1, k2, k3, k4, k5, k6⟩ := lay w4 hBw
        have hbN : x.d ≠ 0 → ∀ g, (Value.slice x.a x.m x.d).ownBlock = some g → g < w.heap.size := fun hd g hg => HBW.out.ownlt hd hg
        have HD := Lib.hid (hT.act (W := w) (fun q hq => hq) hga x.k x.f x.t x.a x.m x.d x.bs x.i x.pl x.z hx2 hxpl (HBW.out.below hBw) hbN)
        clear c0 c1 c2 c3 c4 c5 c6 hT lay
        go_wp2_with fail
        refine HD.out.mono ?_
        rintro e w5 ⟨v5, rfl, hT5, hK5⟩
        have hB5 : Below w.heap.size w w5 := hBw.trans (hK5.below hBw.size (fun q hq => hq))
        have hga5 := hga.step 50 x.k x.f x.t x.bs x.i x.pl x.z
        obtain ⟨k0, k1, k2, k3, k4, k5, k6⟩ := HLAY.out w5 hB5
        by_cases hte : x.t = E
        · subst hte
          have HD2 := Lib.hid (hT5.swap.act (W := w) (fun q hq => hq) hgb x.k x.f x.t x.a x.m x.d x.bs x.i x.pl x.z hx2 hxpl (HBW.out.below hB5) hbN)
          have HG5 := Lib.hid hga5
          clear hT5 HD hga5
          go_wp2_with fail
          refine HD2.out.mono ?_
          rintro e w6 ⟨v6, rfl, hT6, hK6⟩
          have HT6 := Lib.hid hT6.swap
          have hB6 : Below w.heap.size w w6 := hB5.trans (hK6.below hB5.size (fun q hq => hq))
          clear hT6 k0 k1 k2 k3 k4 k5 k6
          go_wp2_with fail
          go_roundw
          case rel => exact ⟨j + 1, by omega, by omega, by go_num, _, _, HT6.out, HG5.out, hgb.step _ _ _ _ _ _ _ _, stepL_same hE _ _ _ _ _ _, hB6⟩
          case measure => simp [intOf]; omega
        · have htb : ((x.t : Int) == (E : Int)) = false := by simp; omega
          have HT5 := Lib.hid hT5
          clear hT5 HD
          go_wp2_with fail
          go_roundw
          case rel => exact ⟨j + 1, by omega, by omega, by go_num, _, sb, HT5.out, hga5, hgb, by rw [upd_other _ _ (fun h => hte h.symm)]; exact hE, hB5⟩
          case measure => simp [intOf]; omega
      · go_wp2_with fail
        go_roundw
        case rel => exact ⟨j + 1, by omega, by omega, by go_num, HP4.out⟩
        case measure => simp [intOf]; omega
    · have hex : ¬ (j : Int) < (n : Int) ∨ ((j : Int) < (n : Int) ∧ ¬ (j : Int) < 80) := by omega
      clear hB
      rcases hex with h1 | ⟨h1, h2⟩
      all_goals
        go_wp2_with fail
        go_loopw [8] (fun sx wr => PairAt w A B E wr) (fun _ wr => lenOf wr A E)
        case atStart => exact HP.out
        case round =>
          clear HP
          obtain ⟨sa, sb, hT, hga, hgb, hE, hBw⟩ := hrel
          have hl13 := hT.len E hE17
          have hlen := hT.lenOf E hE17
          have HT := Lib.hid hT
          have HLN := Lib.hid hlen
          clear hT hlen
          go_wp2_with fail
          refine hl13.mono ?_
          rintro e w4 ⟨rfl, rfl⟩
          clear hl13
          cases hy : sa E with
          | nil =>
            have hl2 := HT.out.swap.len E hE17
            have hsb : (sb E).length = 0 := by rw [← hE, hy]; rfl
            rw [hsb] at hl2
            simp only [List.length_nil]
            go_wp2_with fail
            refine hl2.mono ?_
            rintro e w4 ⟨rfl, rfl⟩
            go_wp2_with fail
            go_ret
            exact ⟨rfl, hBw⟩
          | cons y r =>
            have hl1 : (0 : Int) < (((y :: r).length : Nat) : Int) := by simp
            have HTK := Lib.hid (HT.out.take E hE17 y r hy)
            have hyb : sb E = y :: r := by rw [← hE, hy]
            have HGA := Lib.hid (hga.rest hE17 hy)
            have HGB := Lib.hid (hgb.rest hE17 hyb)
            have HYB := Lib.hid hyb
            have HY := Lib.hid hy
            clear hga hgb hE hyb hy
            go_wp2_with fail
            refine HTK.out.mono ?_
            rintro e w5 ⟨a5, m5, d5, rfl, hb5, hT5, hK5⟩
            obtain ⟨w6, hw6, hx6, hB6⟩ := let_box y.f y.t a5 m5 d5 w5
            have hT6 := hT5.add hB6 (fun q => q = w5.heap.size) (fun q hq => by have := lt_of_heap hx6; omega)
            have hBw5 : Below w.heap.size w w5 := hBw.trans (hK5.below hBw.size (fun q hq => hq))
            have hBw6 := hBw5.trans (hB6.mono hBw5.size)
            have HTK6 := Lib.hid (hT6.swap.take E hE17 y r HYB.out)
            have HX6 := Lib.hid hx6
            have HB5 := Lib.hid (hb5.below hB6)
            have HW6 := Lib.hid hw6
            clear hT5 hT6 hb5 hK5 hB6 hw6 hx6 HTK
            go_upto_region 16 with fail
            rw [HW6.out]
            go_wp2_with fail
            refine HTK6.out.mono ?_
            rintro e w7 ⟨a7, m7, d7, rfl, hb7, hT7, hK7⟩
            obtain ⟨w8, hw8, hx8, hB8⟩ := let_box y.f y.t a7 m7 d7 w7
            have hb57 := HB5.out.kept hK7 (fun g hg => .inl (.inr hg))
            have hx7 := hK7.heap HX6.out (.inr rfl)
            have hx78 := (hB8.block _ (lt_of_heap hx7)).trans hx7
            have hBw7 : Below w.heap.size w w7 := hBw6.trans (hK7.below hBw6.size (fun q hq => .inl (.inl hq)))
            have hBw8 := hBw7.trans (hB8.mono hBw7.size)
            have HS := Lib.hid (refSame y.f y.t a5 m5 d5 a7 m7 d7 y.bs w8 (hb57.below hB8) (hb7.below hB8))
            have hT8 := (hT7.swap.below hB8).less (N' := fun q => q < w.heap.size) (fun q hq => .inl (.inl (.inl hq)))
            have HT8 := Lib.hid hT8
            have x0 := blk_cell hx78 0
            have x1 := blk_cell hx78 1
            have x2 := blk_cell hx78 2
            have y0 := blk_cell hx8 0
            have y1 := blk_cell hx8 1
            have y2 := blk_cell hx8 2
            simp at x0 x1 x2 y0 y1 y2
            have HW8 := Lib.hid hw8
            clear hT7 hT8 hb57 hb7 hx7 hx78 hx8 hK7 hB8 hw8 HTK6 HT
            go_upto_region 17 with fail
            rw [HW8.out]
            go_wp2_with fail
            refine HS.out.mono ?_
            rintro e w9 ⟨rfl, hB9⟩
            have HT9 := Lib.hid (HT8.out.below hB9)
            have hBw9 := hBw8.trans (hB9.mono hBw8.size)
            go_wp2_with fail
            go_roundw
            case rel => exact ⟨_, _, HT9.out, HGA.out, HGB.out, by rw [upd_same, upd_same], hBw9⟩
            case measure => rw [HLN.out, HT9.out.lenOf E hE17, upd_same, HY.out]; simp

end Go.Proofs.Ytehgbpepaakanaa
