/-
  TallyAny: the walk.
-/
import Derived.Test.YtaodgilfoihkfaaAnyL
import Derived.Deep.RegionWith
import Derived.Deep.CutRange
import Derived.Laws.AppendOwnNone
import Derived.Deep.AppendLies
namespace Go.Proofs.Ytaodgilfoihkfaa
open Go.RowKit
set_option linter.unusedVariables false
set_option linter.unusedSimpArgs false

attribute [local go_sem ↓] ld22 ld23 ld25 ld30 st22 st23 st25 st30

theorem hkeep3 {w w' : World} {g : Nat} {x : Obj} (hb : Below w.heap.size w w') (h : w.heap[g]? = some x) : w'.heap[g]? = some x := (hb.block g (lt_of_heap h)).trans h
theorem vcell {w : World} {g : Nat} {vb : List Bool} (h : w.heap[g]? = some (.cells (Ta.bs vb).toArray 22 (0, 0))) (hv : vb.length = 8) {n : Nat} (hn : n < 8) : w.cell? ⟨g, n, none⟩ = some (.bool (vb.getD n false)) := by
  rw [blk_cell h]
  have : n < vb.length := by omega
  simp [Ta.bs, List.getD, this]

theorem undrew {n : Nat} {a b : World} (h : Below n a.drew b) : Below n a b := ⟨h.os, h.tape, h.output, h.size, h.block⟩

theorem Try.infoU8 : (Try.prog.info? 5).map (fun i => (i.zero, i.size, i.bytes)) = some (some (.int .u8 0), 1, 1) := by kernel_rfl
abbrev eight : Array Value := #[.int .u8 0, .int .u8 1, .int .u8 2, .int .u8 3, .int .u8 4, .int .u8 5, .int .u8 6, .int .u8 7]
def Src (w : World) (a : Option Addr) (len cap : Nat) (os : List Int) : Prop :=
  (a = none ∧ len = 0 ∧ cap = 0) ∨ ∃ x, a = some x ∧ ∀ W, Below w.heap.size w W → ∀ j u, (os.map (Value.int .u8))[j]? = some u → W.cell? (x.add j) = some u
theorem src_of {w : World} {a : Option Addr} {len cap : Nat} {zs : List Int} (h : IsRow .u8 w a len cap zs) : Src w a len cap (zs.take len) := by
  rcases h with ⟨rfl, rfl, rfl, rfl⟩ | ⟨x, rfl, hl, hm, hz, hc, hw⟩
  · exact .inl ⟨rfl, rfl, rfl⟩
  · refine .inr ⟨x, rfl, fun W hb j u hu => ?_⟩
    rw [List.getElem?_map, List.getElem?_take] at hu
    split at hu
    · have hj : j < zs.length := by omega
      have := hc j hj
      rw [List.getElem?_eq_getElem hj] at hu
      simp at hu
      subst hu
      refine (hb.cell (World.block_lt_of_cell? w _ this)).trans ?_
      rw [this]
      simp [List.getD, hj]
    · simp at hu
/-- A row of bytes of the function's own. -/
def RowU (w : World) (g : Nat) (xs : List Int) : Prop := ∃ cur : Array Value, w.heap[g]? = some (.cells cur 5 (0, 0)) ∧ ∀ (j : Nat) (n : Int), xs[j]? = some n → cur[j]? = some (.int .u8 n)
theorem rowU_of {w : World} {base g n cap : Nat} {xs : List Int} (h : w.ownsRow base 5 1 (.slice (some ⟨g, 0, none⟩) n cap) n (xs.map (Value.int .u8))) : RowU w g xs := by
  have hc := h.cells (g := g) rfl
  rcases h.2 with ⟨h0, _⟩ | ⟨g', cap', cur, hv, _, hg, _⟩
  · cases h0
  · simp only [Value.slice.injEq, Option.some.injEq, Addr.mk.injEq] at hv
    obtain ⟨⟨rfl, _⟩, _⟩ := hv
    refine ⟨cur, hg, fun j x hx => ?_⟩
    have := hc j (.int .u8 x) (by rw [List.getElem?_map, hx]; rfl)
    rw [Addr.add_lit, Nat.zero_add, blk_cell hg] at this
    exact this

theorem row_nil (wr : World) (Z : Array Value) : RowU ((wr.alloc (.cells eight 5)).alloc (.cells (eight ++ Z) 5)).drew (wr.heap.size + 1) [0, 1, 2, 3, 4, 5, 6, 7] := by
  refine ⟨eight ++ Z, ?_, fun j n hx => ?_⟩
  · have := heap_alloc_new (wr.alloc (.cells eight 5)) (.cells (eight ++ Z) 5)
    rw [show (wr.alloc (.cells eight 5)).heap.size = wr.heap.size + 1 by simp] at this
    exact this
  · have hj : j < 8 := (List.getElem?_eq_some_iff.1 hx).1
    rw [Array.getElem?_append_left hj]
    match j, hj with
    | 0, _ => injection hx with hx; subst hx; rfl
    | 1, _ => injection hx with hx; subst hx; rfl
    | 2, _ => injection hx with hx; subst hx; rfl
    | 3, _ => injection hx with hx; subst hx; rfl
    | 4, _ => injection hx with hx; subst hx; rfl
    | 5, _ => injection hx with hx; subst hx; rfl
    | 6, _ => injection hx with hx; subst hx; rfl
    | 7, _ => injection hx with hx; subst hx; rfl
theorem eight_at (w : World) : ∀ j u, eight.toList[j]? = some u → (w.alloc (.cells eight 5)).cell? ((⟨w.heap.size, 0, none⟩ : Addr).add j) = some u := by
  intro j u hu
  rw [Addr.add_lit, Nat.zero_add, blk_cell (heap_alloc_new w _)]
  simpa using hu

/-- What a round's vote leaves. -/
def After (w wx : World) (s : Value) (g7 g9 : Nat) (u u2 t0 : Ta) (vb : List Bool) : Prop :=
  (∃ g, s = .pointer (some ⟨g, 0, none⟩) ∧ Bx wx g u2) ∧ Bx wx g7 u ∧ Bx wx g9 t0 ∧ wx.heap[w.heap.size]? = some (.cells (Ta.bs vb).toArray 22 (0, 0)) ∧ Below w.heap.size w wx

theorem after_a {w wr w4 : World} {g7 g9 : Nat} {u u2 t0 : Ta} {vb : List Bool} (hl2 : u2.Len) (c7 : Bx wr g7 u) (c9 : Bx wr g9 t0) (h4 : wr.heap[w.heap.size]? = some (.cells (Ta.bs vb).toArray 22 (0, 0))) (BW : Below w.heap.size w wr) (hb : Below wr.heap.size wr.drew w4) :
    After w ((w4.alloc (.cells zlit 30)).setRow w4.heap.size u2.arr) (.pointer (some ⟨w4.heap.size, 0, none⟩)) g7 g9 u u2 t0 vb := by
  obtain ⟨_, c, d⟩ := nv w4 hl2
  have hb := undrew hb
  exact ⟨⟨_, rfl, c⟩, (c7.below hb).below d, (c9.below hb).below d, hkeep3 d (hkeep3 hb h4), below_go d (below_go hb BW)⟩

theorem after_b {w wr w4 : World} {g7 g9 : Nat} {u u2 t0 : Ta} {vb : List Bool} (hl2 : u2.Len) (c7 : Bx wr g7 u) (c9 : Bx wr g9 t0) (h4 : wr.heap[w.heap.size]? = some (.cells (Ta.bs vb).toArray 22 (0, 0))) (BW : Below w.heap.size w wr) (hb : Below (wr.alloc (.cells zlit 30)).heap.size (wr.alloc (.cells zlit 30)).drew w4) :
    After w (w4.setRow wr.heap.size u2.arr) (.pointer (some ⟨wr.heap.size, 0, none⟩)) g7 g9 u u2 t0 vb := by
  have hb := undrew hb
  have bz := (bx_zero wr 30).below hb
  have b7 := (c7.alloc (.cells zlit 30)).below hb
  have b9 := (c9.alloc (.cells zlit 30)).below hb
  have b4 := hkeep3 hb (blk_alloc h4 (.cells zlit 30))
  have BB := below_go hb (BW.alloc BW.size (.cells zlit 30))
  have l7 := c7.lt
  have l9 := c9.lt
  have l4 := lt_of_heap h4
  exact ⟨⟨_, rfl, bz.row u2⟩, b7.far (by omega) _, b9.far (by omega) _, (setRow_other w4 _ _ _ (by omega)).trans b4, brow BB (by omega) _⟩

theorem rowU_a {wr w4 : World} {gr : Nat} {xs : List Int} (R : RowU wr gr xs) (hb : Below wr.heap.size wr.drew w4) (arr : Array Value) : RowU ((w4.alloc (.cells zlit 30)).setRow w4.heap.size arr) gr xs := by
  obtain ⟨cur, h, hc⟩ := R
  have h1 := hkeep3 (undrew hb) h
  have := lt_of_heap h1
  exact ⟨cur, (setRow_other _ _ _ _ (by omega)).trans (blk_alloc h1 _), hc⟩
theorem rowU_b {wr w4 : World} {gr : Nat} {xs : List Int} (R : RowU wr gr xs) (hb : Below (wr.alloc (.cells zlit 30)).heap.size (wr.alloc (.cells zlit 30)).drew w4) (arr : Array Value) : RowU (w4.setRow wr.heap.size arr) gr xs := by
  obtain ⟨cur, h, hc⟩ := R
  have h1 := hkeep3 (undrew hb) (blk_alloc h (.cells zlit 30))
  have := lt_of_heap h
  exact ⟨cur, (setRow_other _ _ _ _ (by omega)).trans h1, hc⟩
theorem RowU.far {wr : World} {gr g : Nat} {xs : List Int} (R : RowU wr gr xs) (hn : gr ≠ g) (arr : Array Value) : RowU (wr.setRow g arr) gr xs := by
  obtain ⟨cur, h, hc⟩ := R
  exact ⟨cur, (setRow_other _ _ _ _ hn).trans h, hc⟩
theorem RowU.cell {wr : World} {gr j : Nat} {xs : List Int} {x : Int} (R : RowU wr gr xs) (hx : xs[j]? = some x) : wr.cell? ⟨gr, j, none⟩ = some (.int .u8 x) := by
  obtain ⟨cur, h, hc⟩ := R
  rw [blk_cell h, hc j x hx]
theorem all_step {ys : List Int} {i n : Nat} (f : Int → Bool) (h : ys[i]? = some (n : Int)) : (ys.take (i + 1)).all f = ((ys.take i).all f && f n) := by
  rw [List.take_add_one, h, List.all_append]
  simp

attribute [local irreducible] ld sto Ta.arr Ta.bs

set_option maxRecDepth 100000 in
set_option maxHeartbeats 6400000 in
theorem any_walk (a : Option Addr) (len cap : Nat) (zs : List Int) (vb : List Bool) (a1 : Option Addr) (len1 cap1 : Nat) (zs1 : List Int) (w : World) (hr : IsRow .u8 w a len cap zs) (hvb : vb.length = 8) (hr1 : IsRow .u8 w a1 len1 cap1 zs1) :
    Calls Try.prog 5 #[.slice a len cap, .agg (Ta.bs vb).toArray, .slice a1 len1 cap1] w fun e w' => e = .returned (.bool true) ∧ Below w.heap.size w w' := by
  obtain ⟨hI, hlen, hlc, hcap, hwf⟩ := hr.ints
  obtain ⟨hI1, hlen1, hlc1, hcap1, hwf1⟩ := hr1.ints
  have hsrc := src_of hr1
  generalize zs.take len = ys at *
  generalize zs1.take len1 = os at *
  have HI := Lib.hid hI
  have HL := Lib.hid hlen
  have HWF := Lib.hid hwf
  have HC := Lib.hid (And.intro hlc hcap)
  have HI1 := Lib.hid hI1
  have HL1 := Lib.hid hlen1
  have HWF1 := Lib.hid hwf1
  have HV := Lib.hid hvb
  have HSRC := Lib.hid hsrc
  clear hsrc
  have hll1 : (len1 : Int) ≤ 9223372036854775807 := by omega
  clear hr hI hlen hlc hcap hwf hr1 hI1 hlen1 hlc1 hcap1 hwf1 hvb
  have h4 : (w.alloc (.cells (Ta.bs vb).toArray 22)).heap[w.heap.size]? = some (.cells (Ta.bs vb).toArray 22 (0, 0)) := heap_alloc_new w _
  have hB : Below w.heap.size w (w.alloc (.cells (Ta.bs vb).toArray 22)) := (Below.refl _ _).alloc (by simp) _
  go_enter Try.func5, Try.ntmps5
  go_wp2_with fail
  refine (alive_yes _).mono ?_
  rintro e w1 ⟨rfl, hb⟩
  replace h4 := hkeep3 hb h4
  have BW := below_go hb hB
  clear hB hb
  by_cases h100 : (100 : Int) < (len : Int)
  · go_wp2
    go_ret
    exact ⟨rfl, BW⟩
  by_cases h101 : (100 : Int) < (len1 : Int)
  · go_wp2
    go_ret
    exact ⟨rfl, BW⟩
  rcases new_cases ys with hn | ⟨t0, ha, hz, hn⟩
  · go_wp2_with fail
    refine (new_is a len cap ys w.heap.size _ (HI.out.below BW) BW.size HL.out HC.out.1 HC.out.2 HWF.out).mono ?_
    rw [hn]
    rintro e w2 ⟨rfl, hb⟩
    replace BW := below_go hb BW
    clear hb
    obtain ⟨s7, c7, d⟩ := nv w2 zero_len
    replace BW := below_go d BW
    clear d
    go_wp2_with fail
    refine (new_is a len cap ys w.heap.size _ (HI.out.below BW) BW.size HL.out HC.out.1 HC.out.2 HWF.out).mono ?_
    rw [hn]
    rintro e w3 ⟨rfl, hb⟩
    replace BW := below_go hb BW
    clear hb s7
    obtain ⟨s9, c9, d⟩ := nv w3 zero_len
    replace BW := below_go d BW
    clear d c7 c9 h4 hn
    go_wp2
    go_ret
    exact ⟨rfl, BW⟩
  have HF := Lib.hid (fresh ha hz)
  have HS := Lib.hid (seats (fun z hz => (bounds_u8 (HWF.out z hz)).1) ha)
  have H8 := Lib.hid (seats_len ha)
  have hl0 := HF.out.len
  have NEW : ∀ (W : World), Below w.heap.size w W → Calls Try.prog 15 #[.slice a len cap] W fun e w' => e = .returned (.tuple #[TV t0, .int .i64 0]) ∧ Below W.heap.size W w' := fun W B => by
    have := new_is a len cap ys w.heap.size W (HI.out.below B) B.size HL.out HC.out.1 HC.out.2 HWF.out
    rw [hn] at this
    exact this
  have NN := Lib.hid NEW
  clear NEW hn ha hz
  go_wp2_with fail
  refine (NN.out _ BW).mono ?_
  rintro e w2 ⟨rfl, hb⟩
  replace h4 := hkeep3 hb h4
  replace BW := below_go hb BW
  clear hb
  have hx7 := lt_of_heap h4
  obtain ⟨s7, c7, d⟩ := nv w2 hl0
  replace h4 := hkeep3 d h4
  have hg7 : w.heap.size ≤ w2.heap.size := BW.size
  replace BW := below_go d BW
  clear d
  go_wp2_with fail
  refine (NN.out _ BW).mono ?_
  rintro e w3 ⟨rfl, hb⟩
  replace c7 := c7.below hb
  replace h4 := hkeep3 hb h4
  replace BW := below_go hb BW
  clear hb s7
  have hx9 := lt_of_heap h4
  obtain ⟨s9, c9, d⟩ := nv w3 hl0
  have hne79 : w2.heap.size ≠ w3.heap.size := Nat.ne_of_lt c7.lt
  replace c7 := c7.below d
  replace h4 := hkeep3 d h4
  have hg9 : w.heap.size ≤ w3.heap.size := BW.size
  replace BW := below_go d BW
  clear d
  have HA := Lib.hid (any_start HF.out (vote fun q => vb.getD q false))
  go_wp2_with fail
  clear s9
  generalize (w3.alloc (.cells zlit 30)).setRow w3.heap.size t0.arr = W at *
  generalize w2.heap.size = g7 at *
  generalize w3.heap.size = g9 at *
  go_loopw [57] (fun ix wr => ∃ k : Nat, k ≤ len ∧ ix = .int .i64 k ∧ (∃ u : Ta, Hid (AnyI t0 u (vote fun q => vb.getD q false) (fun q => (q : Int) ∈ ys.take k)) ∧ Bx wr g7 u) ∧ Bx wr g9 t0 ∧ wr.heap[w.heap.size]? = some (.cells (Ta.bs vb).toArray 22 (0, 0)) ∧ Below w.heap.size w wr) (fun ix _ => len - (intOf ix).toNat)
  case atStart => exact ⟨0, by omega, rfl, ⟨t0, Lib.hid (HA.out.iff (fun q _ => by simp)), c7⟩, c9, h4, BW⟩
  case round =>
    clear c7 c9 h4 BW
    obtain ⟨k, hk, rfl, ⟨u, HU, c7⟩, c9, h4, BW⟩ := hrel
    have hlu := HU.out.len
    by_cases hlt : k < len
    · obtain ⟨x, hx⟩ : ∃ x, ys[k]? = some x := ⟨_, List.getElem?_eq_getElem (by rw [HL.out]; exact hlt)⟩
      obtain ⟨bb, off, rfl, hcell⟩ := (HI.out.below BW).get hx
      have hxm := List.mem_of_getElem? hx
      have hxw := HS.out.lo x hxm
      have hxo := HS.out.w x hxm
      obtain ⟨n, rfl⟩ := Int.eq_ofNat_of_zero_le hxw.1
      rw [Int.toNat_natCast] at hxo
      have hn8 : n < 8 := by omega
      have HX := Lib.hid hx
      have hk2 : (k : Int) < (len : Int) := by omega
      have vc := vcell h4 HV.out hn8
      obtain ⟨u2, hp, hA2⟩ := any_put HU.out hn8 hxo (vote_or _ n)
      have HU2 := Lib.hid (hA2.iff (fun q _ => take_next HX.out q))
      have hl2 := hA2.len
      have PC := Lib.hid (fun W => put_at hlu n 5 _ hp W)
      have l7 := (Bx.drew c7).load30 hlu
      have l7a := (Bx.drew (c7.alloc (.cells zlit 30))).load30 hlu
      clear hx hxm hxw hxo hp hA2
      go_upto_region 13 with fail
      go_cut [14, 15, 57] from 57 to 73 (fun s14 s15 s57 wx => s57 = .int .i64 k ∧ s15 = .int .i64 0 ∧ After w wx s14 g7 g9 u u2 t0 vb)
      case first =>
        go_region_with ((first
          | (go_at_call 22; refine (vote_is w.heap.size vb n hn8 _ (by first | exact vc | exact vcell (blk_alloc h4 _) HV.out hn8)).mono ?_; rintro e w' ⟨rfl, hww⟩; subst hww)
          | (go_at_call 11; refine (PC.out _).mono ?_; rintro e w4 ⟨rfl, hb⟩; first | (have s14 := (Bx.below (Bx.drew (bx_zero wr 30)) hb).sto30 zero_len hl2) | (have s14 := (nv w4 hl2).1))))
        all_goals (go_wp2_with fail; go_meet; first | exact ⟨rfl, rfl, after_a hl2 c7 c9 h4 BW hb⟩ | exact ⟨rfl, rfl, after_b hl2 c7 c9 h4 BW hb⟩)
      case rest =>
        obtain ⟨rfl, rfl, ⟨g14, rfl, c14⟩, d7, d9, d4, DW⟩ := hcut
        have l14 := c14.load30 hl2
        have s7 := d7.sto30 hlu hl2
        have C7 := Lib.hid (d7.row u2)
        have C9 := Lib.hid (d9.far (Ne.symm hne79) u2.arr)
        have C4 := Lib.hid ((setRow_other wc g7 w.heap.size u2.arr (Nat.ne_of_lt hx7)).trans d4)
        have CW := Lib.hid (brow DW hg7 u2.arr)
        clear c7 c9 h4 BW l7 l7a vc c14 d7 d9 d4 DW
        go_wp2_with fail
        go_roundw
        case rel => exact ⟨k + 1, by omega, by go_num, ⟨u2, HU2, C7.out⟩, C9.out, C4.out, CW.out⟩
        case measure => simp [intOf]; omega
    · obtain rfl : k = len := by omega
      have hU := HU.out.iff (d' := fun q => (q : Int) ∈ ys) (fun q _ => by rw [List.take_of_length_le (by rw [HL.out]; exact Nat.le_refl _)])
      have HU7 := Lib.hid hU
      clear hU HU
      go_upto_region 18 with fail
      go_cut [77, 78, 79] from 74 to 79 (fun s77 s78 s79 wx => s78 = .int .i64 ((len1 + 8 : Nat) : Int) ∧ s79 = .int .i64 0 ∧ (∃ g cap, s77 = .slice (some ⟨g, 0, none⟩) (len1 + 8) cap ∧ g7 ≠ g ∧ g9 ≠ g ∧ RowU wx g (os ++ [0, 1, 2, 3, 4, 5, 6, 7])) ∧ Bx wx g7 u ∧ Bx wx g9 t0 ∧ wx.heap[w.heap.size]? = some (.cells (Ta.bs vb).toArray 22 (0, 0)) ∧ Below w.heap.size w wx)
      case first =>
        obtain ⟨i0, hi0, hz0, hz1, hz2⟩ := info_parts Try.infoU8
        have hn0 := World.ownsRow_nil wr wr.heap.size 5 1
        rcases HSRC.out with hnil | ⟨x1, hx1, hsrc⟩
        · have hv : Value.slice a1 len1 cap1 = .slice none 0 0 := by rw [hnil.1, hnil.2.1, hnil.2.2]
          have HNIL := Lib.hid hnil
          have HVV := Lib.hid hv
          clear hnil hv
          go_wp2_with (at_builtin; refine wpList_append_own_none rfl _ _ 28 rfl wr.heap.size 5 i0 1 Try.underlying28 hi0 _ 0 [] rfl hn0 HVV.out ?_)
          go_meet
          have e2 := HNIL.out.2.1
          have e3 : os = [] := List.length_eq_zero_iff.1 (HL1.out.trans e2)
          have lt7 := c7.lt
          have lt9 := c9.lt
          refine ⟨by rw [e2]; rfl, rfl, ⟨wr.heap.size + 1, _, by rw [e2], by omega, by omega, ?_⟩, Bx.drew ((c7.alloc _).alloc _), Bx.drew ((c9.alloc _).alloc _), blk_alloc (blk_alloc h4 _) _, Below.drew ((BW.alloc BW.size _).alloc (by have := BW.size; simp; omega) _)⟩
          rw [e3]
          exact row_nil wr _
        · have HX1 := Lib.hid hx1
          clear hx1
          go_wp2_with (at_builtin; refine wpList_append_own _ rfl _ _ 28 rfl wr.heap.size 5 i0 _ 1 1 Try.underlying28 hi0 hz0 hz1 hz2 rfl (by decide) _ 0 [] rfl hn0 x1 len1 cap1 (os.map (Value.int .u8)) (show Value.slice a1 len1 cap1 = _ by rw [HX1.out]) ?c1 (hsrc _ BW) ?c2 ?c3 ?c4 (Nat.le_refl _) ?_)
          case c1 => simp [HL1.out]
          case c2 =>
            intro u hu
            obtain ⟨y, _, rfl⟩ := List.mem_map.1 hu
            rfl
          case c3 => unfold maxLen; omega
          case c4 => omega
          intro v1 w5 hown hgrow hiff
          have hw8 : (w5.alloc (.cells eight 5)).ownsRow wr.heap.size 5 1 v1 len1 (os.map (Value.int .u8)) := hown.alloc _
          have sz5 := hgrow.size
          go_wp2_with (at_builtin; refine wpList_append_lies _ rfl _ _ 28 rfl wr.heap.size 5 i0 _ 1 1 Try.underlying28 hi0 hz0 hz1 hz2 rfl (by decide) _ _ _ rfl hw8 ⟨w5.heap.size, 0, none⟩ 8 8 eight.toList rfl rfl (eight_at w5) ?d2 (by decide) ?d3 ?d4 ?d5 _ rfl ?_)
          case d2 => exact ⟨rfl, rfl, rfl, rfl, rfl, rfl, rfl, rfl⟩
          case d3 => unfold maxLen; omega
          case d4 => omega
          case d5 => simp; omega
          intro g8 cap8 w6 hown6 hgrow6 hat hg6
          have U1 : Upd (fun k => wr.heap.size ≤ k) wr w5 := (Upd.of_grown hgrow).mono (fun i hi h => by simp [Value.ownBlock] at h)
          have U2 : Upd (fun k => wr.heap.size ≤ k) wr w6 := (U1.alloc (.cells eight 5)).trans (Upd.of_grown hgrow6) (fun i hi h => (hw8.lt i h).1)
          have BE : Below wr.heap.size wr w6 := U2.below (Nat.le_refl _) (fun i hi h => by omega)
          have lt8 := (hown6.lt g8 rfl).1
          have lt7 := c7.lt
          have lt9 := c9.lt
          have R8 : RowU w6 g8 (os ++ [0, 1, 2, 3, 4, 5, 6, 7]) := rowU_of (cap := cap8) (n := len1 + 8) (base := wr.heap.size) (by rw [List.map_append]; exact hown6)
          go_wp2_with fail
          go_meet
          exact ⟨rfl, rfl, ⟨g8, cap8, rfl, by omega, by omega, R8⟩, c7.below BE, c9.below BE, hkeep3 BE h4, below_go BE BW⟩
      case rest =>
        obtain ⟨rfl, rfl, ⟨gr, capr, rfl, hn7, hn9, R⟩, d7, d9, d4, DW⟩ := hcut
        clear c7 c9 h4 BW hlt
        have hk0 : 0 < k := by
          obtain ⟨q, hq, hw⟩ := HF.out.some
          have := HS.out.mem q hq hw
          rw [← HL.out]
          exact List.length_pos_of_mem this
        have hxl : (os ++ [0, 1, 2, 3, 4, 5, 6, 7]).length = len1 + 8 := by simp [HL1.out]
        have hxw : ∀ x ∈ os ++ [0, 1, 2, 3, 4, 5, 6, 7], (0 : Int) ≤ x ∧ x ≤ 255 := by
          intro x hx
          rcases List.mem_append.1 hx with hx | hx
          · exact bounds_u8 (HWF1.out x hx)
          · simp at hx
            omega
        have hma := fun q => met_all (ys := ys) (os := os) H8.out q
        rw [HL1.out] at hma
        have HMA := Lib.hid hma
        have HXW := Lib.hid hxw
        have HXL := Lib.hid hxl
        clear hma hxw hxl
        generalize os ++ [0, 1, 2, 3, 4, 5, 6, 7] = xs at *
        have hgr : w.heap.size ≤ g9 := hg9
        have HA0 := Lib.hid (HA.out.iff (d' := met ys xs 0) (fun q _ => ⟨fun h => h.elim, fun ⟨j, _, hj, _⟩ => absurd hj (by omega)⟩))
        go_wp2_with fail
        go_loopw [79] (fun ix wr => ∃ j : Nat, j ≤ len1 + 8 ∧ ix = .int .i64 j ∧ (∃ b : Ta, Hid (AnyI t0 b (vote fun q => vb.getD q false) (met ys xs j)) ∧ Bx wr g9 b) ∧ Bx wr g7 u ∧ RowU wr gr xs ∧ wr.heap[w.heap.size]? = some (.cells (Ta.bs vb).toArray 22 (0, 0)) ∧ Below w.heap.size w wr) (fun ix _ => len1 + 8 - (intOf ix).toNat)
        case atStart => exact ⟨0, by omega, rfl, ⟨t0, HA0, d9⟩, d7, R, d4, DW⟩
        case round =>
          clear d7 d9 d4 DW R HA0
          obtain ⟨j, hj, rfl, ⟨b, HU, c9⟩, c7, R, h4, BW⟩ := hrel
          have hlb := HU.out.len
          by_cases hjl : j < len1 + 8
          · obtain ⟨x, hx⟩ : ∃ x, xs[j]? = some x := ⟨_, List.getElem?_eq_getElem (by rw [HXL.out]; exact hjl)⟩
            have hxb := HXW.out x (List.mem_of_getElem? hx)
            obtain ⟨m, rfl⟩ := Int.eq_ofNat_of_zero_le hxb.1
            have xcell := R.cell hx
            have hrk : m % k < k := Nat.mod_lt _ hk0
            obtain ⟨y, hy⟩ : ∃ y, ys[m % k]? = some y := ⟨_, List.getElem?_eq_getElem (by rw [HL.out]; exact hrk)⟩
            have hmod : (m : Int) % (k : Int) = ((m % k : Nat) : Int) := by simp
            obtain ⟨bb, off, rfl, hcell⟩ := (HI.out.below BW).get hy
            have hym := List.mem_of_getElem? hy
            have hyw := HS.out.lo y hym
            have hyo := HS.out.w y hym
            obtain ⟨n, rfl⟩ := Int.eq_ofNat_of_zero_le hyw.1
            rw [Int.toNat_natCast] at hyo
            have hn8 : n < 8 := by omega
            have vc := vcell h4 HV.out hn8
            obtain ⟨u2, hp, hA2⟩ := any_put HU.out hn8 hyo (vote_or _ n)
            have hmet : ys[(m : Int).toNat % ys.length]? = some (n : Int) := by rw [Int.toNat_natCast, HL.out]; exact hy
            have HU2 := Lib.hid (hA2.iff (fun q _ => met_next hx hmet q))
            have hl2 := hA2.len
            have PC := Lib.hid (fun W => put_at hlb n 5 _ hp W)
            have l9 := (Bx.drew c9).load30 hlb
            have l9a := (Bx.drew (c9.alloc (.cells zlit 30))).load30 hlb
            have hj2 : (j : Int) < ((len1 + 8 : Nat) : Int) := by omega
            have hk02 : (0 : Int) < (k : Int) := by omega
            have hkz : ((k : Int) == 0) = false := by simp; omega
            generalize m % k = r at *
            have hrk2 : (r : Int) < (k : Int) := by omega
            clear hx hy hym hyw hyo hp hA2 hmet
            go_upto_region 22 with fail
            go_cut [19, 20, 79] from 79 to 103 (fun s19 s20 s79 wx => s79 = .int .i64 j ∧ s20 = .int .i64 0 ∧ RowU wx gr xs ∧ After w wx s19 g9 g7 b u2 u vb)
            case first =>
              go_region_with ((first
                | (go_at_call 22; refine (vote_is w.heap.size vb n hn8 _ (by first | exact vc | exact vcell (blk_alloc h4 _) HV.out hn8)).mono ?_; rintro e w' ⟨rfl, hww⟩; subst hww)
                | (go_at_call 11; refine (PC.out _).mono ?_; rintro e w4 ⟨rfl, hb⟩; first | (have s14 := (Bx.below (Bx.drew (bx_zero wr 30)) hb).sto30 zero_len hl2) | (have s14 := (nv w4 hl2).1))))
              all_goals (go_wp2_with fail; go_meet; first | exact ⟨rfl, rfl, rowU_a R hb _, after_a hl2 c9 c7 h4 BW hb⟩ | exact ⟨rfl, rfl, rowU_b R hb _, after_b hl2 c9 c7 h4 BW hb⟩)
            case rest =>
              obtain ⟨rfl, rfl, R2, ⟨g14, rfl, c14⟩, d9, d7, d4, DW⟩ := hcut
              have l14 := c14.load30 hl2
              have s9 := d9.sto30 hlb hl2
              have C9 := Lib.hid (d9.row u2)
              have C7 := Lib.hid (d7.far hne79 u2.arr)
              have C4 := Lib.hid ((setRow_other wc g9 w.heap.size u2.arr (Nat.ne_of_lt hx9)).trans d4)
              have CR := Lib.hid (R2.far (Ne.symm hn9) u2.arr)
              have CW := Lib.hid (brow DW hg9 u2.arr)
              clear c7 c9 h4 BW R l9 l9a vc c14 d7 d9 d4 DW R2 xcell hcell
              go_wp2_with fail
              go_roundw
              case rel => exact ⟨j + 1, by omega, by go_num, ⟨u2, HU2, C9.out⟩, C7.out, CR.out, C4.out, CW.out⟩
              case measure => simp [intOf]; omega
          · obtain rfl : j = len1 + 8 := by omega
            have hbu : b = u := any_eq (HU.out.iff (fun q _ => HMA.out q)) HU7.out
            subst hbu
            have ho := any_out HS.out HU7.out
            have HO := Lib.hid ho
            clear R HU ho
            go_wp2_with fail
            go_loopw [21, 106] (fun sx ix wr => ∃ i : Nat, i ≤ k ∧ ix = .int .i64 i ∧ (∃ s, sx = .bool s ∧ Hid (s = (ys.take i).all fun z => vb.getD z.toNat false)) ∧ Bx wr g7 b ∧ Bx wr g9 b ∧ wr.heap[w.heap.size]? = some (.cells (Ta.bs vb).toArray 22 (0, 0)) ∧ Below w.heap.size w wr) (fun _ ix _ => k - (intOf ix).toNat)
            case atStart => exact ⟨0, by omega, rfl, ⟨true, rfl, Lib.hid rfl⟩, c7, c9, h4, BW⟩
            case round =>
              clear c7 c9 h4 BW
              obtain ⟨i, hi, rfl, ⟨s, rfl, hs⟩, c7, c9, h4, BW⟩ := hrel
              by_cases hil : i < k
              · obtain ⟨y, hy⟩ : ∃ y, ys[i]? = some y := ⟨_, List.getElem?_eq_getElem (by rw [HL.out]; exact hil)⟩
                obtain ⟨bb, off, rfl, hcell⟩ := (HI.out.below BW).get hy
                have hyw := HS.out.lo y (List.mem_of_getElem? hy)
                obtain ⟨n, rfl⟩ := Int.eq_ofNat_of_zero_le hyw.1
                have hn8 : n < 8 := by omega
                have hm8 : (n : Int) % 8 = n := by omega
                have hn8i : (n : Int) < 8 := by omega
                have hi2 : (i : Int) < (k : Int) := by omega
                have vc := vcell h4 HV.out hn8
                have hst := all_step (fun z => vb.getD z.toNat false) hy
                rw [← hs.out] at hst
                simp only [Int.toNat_natCast] at hst
                obtain ⟨q, hq⟩ : ∃ q, vb.getD n false = q := ⟨_, rfl⟩
                rw [hq] at hst vc
                have HST := Lib.hid hst
                have C7 := Lib.hid c7
                have C9 := Lib.hid c9
                have C4 := Lib.hid h4
                have CW := Lib.hid BW
                clear hy hst hq c7 c9 h4 BW hyw
                cases s
                · go_wp2_with fail
                  go_roundw
                  case rel => exact ⟨i + 1, by omega, by go_num, ⟨false, rfl, Lib.hid (by rw [HST.out]; rfl)⟩, C7.out, C9.out, C4.out, CW.out⟩
                  case measure => simp [intOf]; omega
                · go_wp2_with fail
                  go_roundw
                  case rel => exact ⟨i + 1, by omega, by go_num, ⟨q, rfl, Lib.hid (by rw [HST.out]; rfl)⟩, C7.out, C9.out, C4.out, CW.out⟩
                  case measure => simp [intOf]; omega
              · obtain rfl : i = k := by omega
                have hall := hs.out
                rw [List.take_of_length_le (by rw [HL.out]; exact Nat.le_refl _)] at hall
                have ho := HO.out
                rw [← hall] at ho
                have l7 := c7.load30 HU7.out.len
                have l9 := c9.load30 HU7.out.len
                have q := fun w => eq30 w 9997 HU7.out.len HU7.out.len
                simp only [decide_true] at q
                have hlb2 := HU7.out.len
                clear hall hs h4
                cases s
                · go_wp2_with fail
                  refine (outcome_at hlb2 (o := 2) (by rw [ho]; rfl) _).mono ?_
                  rintro e w9 ⟨rfl, hb⟩
                  replace BW := below_go hb BW
                  clear hb
                  go_wp2
                  go_ret
                  exact ⟨rfl, BW⟩
                · go_wp2_with fail
                  refine (outcome_at hlb2 (o := 1) (by rw [ho]; rfl) _).mono ?_
                  rintro e w9 ⟨rfl, hb⟩
                  replace BW := below_go hb BW
                  clear hb
                  go_wp2
                  go_ret
                  exact ⟨rfl, BW⟩

end Go.Proofs.Ytaodgilfoihkfaa
