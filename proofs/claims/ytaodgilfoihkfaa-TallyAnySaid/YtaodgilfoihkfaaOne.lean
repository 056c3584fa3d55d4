/-
  TallyOne: the pure law, and the walk.
-/
import Derived.Test.YtaodgilfoihkfaaBegins
namespace Go.Proofs.Ytaodgilfoihkfaa
open Go.RowKit
set_option linter.unusedVariables false
set_option linter.unusedSimpArgs false

attribute [local go_sem ↓] ld22 ld23 ld25 ld30 st22 st23 st25 st30

theorem setV_right {t : Ta} (hl : t.Len) (h : t.right = true) {k : Nat} (hk : k < 8) (hw : t.w k = true) (he : t.e k ≠ 0) {x : Int} (h1 : 0 ≤ x) (h2 : x ≤ 2) : (t.setV k x).right = true := by
  rw [right_iff] at h ⊢
  refine ⟨fun j hj => ?_, h.2⟩
  have hj0 := h.1 j hj
  have e1 : (t.setV k x).w j = t.w j := rfl
  have e2 : (t.setV k x).e j = t.e j := rfl
  simp only [Ta.okAt, e1, e2, Ta.v_setV hl hk] at hj0 ⊢
  by_cases hjk : j = k
  · subst hjk
    simp only [hw, if_true, Bool.and_eq_true, decide_eq_true_eq] at hj0 ⊢
    simp [he] at hj0 ⊢
    omega
  · simp only [hjk, if_false]
    exact hj0
theorem hear_good {t : Ta} {n : Nat} {ep : Int} (hr : t.right = true) (hn : n < 8) (hw : t.w n = true) (h1 : 1 ≤ ep) (h2 : ep ≤ 1048576) (h3 : t.e n ≤ ep) : t.hear n ep = (t.setE n ep, 0) := by
  unfold Ta.hear
  rw [if_neg (by simp [hr]; omega), if_neg (by simp [hw]; omega), if_neg (by omega)]
theorem put_good {t : Ta} (hl : t.Len) {n : Nat} {ep v : Int} (hr : t.right = true) (hn : n < 8) (hw : t.w n = true) (h1 : 1 ≤ ep) (h2 : ep ≤ 1048576) (h3 : t.e n ≤ ep) (hv : v = 1 ∨ v = 2) (h0 : t.v n = 0 ∨ t.v n = v) : t.put n ep v = ((t.setE n ep).setV n v, 0) := by
  have hh := hear_good hr hn hw h1 h2 h3
  unfold Ta.put
  rw [hh, if_neg (by omega), if_neg (by simp)]
  have e1 : (t.setE n ep).v n = t.v n := rfl
  simp only [e1]
  rcases h0 with h0 | h0
  · rw [if_pos h0]
  · rw [if_neg (by omega), if_neg (by simpa using h0), Ta.setV_same (hl.setE n ep) hn (e1.trans h0)]

structure One (t0 t : Ta) (zs : List Int) (k yes no : Nat) : Prop where
  len : t.Len
  right : t.right = true
  w : t.W = t0.W
  fut : ∀ (j : Nat) (z : Int), k ≤ j → zs[j]? = some z → t.v z.toNat = 0 ∧ t.e z.toNat = 0
  no1 : 0 < no → ∃ q, q < 8 ∧ t.v q = 2
  no0 : no = 0 → ∀ q, q < 8 → t.v q ≠ 2
  sum : yes + no ≤ k
  all : yes + no = k → ∀ (j : Nat) (z : Int), j < k → zs[j]? = some z → t.v z.toNat ≠ 0
  som : yes + no < k → ∃ (j : Nat) (z : Int), j < k ∧ zs[j]? = some z ∧ t.v z.toNat = 0

theorem one_start {t : Ta} (h : Fresh t) (zs : List Int) : One t t zs 0 0 0 :=
  ⟨h.len, h.right, rfl, fun _ _ _ _ => ⟨h.v _, h.e _⟩, by omega, fun _ q _ => by rw [h.v]; decide, by omega, fun _ j z hj => by omega, by omega⟩

theorem one_none {t0 t : Ta} {zs : List Int} {k yes no : Nat} (h : One t0 t zs k yes no) {z : Int} (hz : zs[k]? = some z) : One t0 t zs (k + 1) yes no := by
  have h0 := h.fut k z (Nat.le_refl _) hz
  have hs := h.sum
  refine ⟨h.len, h.right, h.w, fun j x hj hx => h.fut j x (by omega) hx, h.no1, h.no0, by omega, by omega, fun _ => ?_⟩
  by_cases hk : yes + no < k
  · obtain ⟨j, x, hj, hx, hv⟩ := h.som hk
    exact ⟨j, x, by omega, hx, hv⟩
  · exact ⟨k, z, by omega, hz, h0.1⟩

/-- The list's places. -/
structure Seats (t0 : Ta) (zs : List Int) : Prop where
  lo : ∀ z ∈ zs, 0 ≤ z ∧ z < 8
  w : ∀ z ∈ zs, t0.w z.toNat = true
  inj : ∀ (i j : Nat) (z : Int), zs[i]? = some z → zs[j]? = some z → i = j
  mem : ∀ q, q < 8 → t0.w q = true → (q : Int) ∈ zs

theorem seats {zs : List Int} {t : Ta} (h0 : ∀ z ∈ zs, 0 ≤ z) (h : Ta.zero.adds zs = some t) : Seats t zs := by
  have h8 := adds_range zs h
  have hm := adds_mem zs zero_len h0 h
  have ⟨nd, _⟩ := adds_nodup zs zero_len h0 h
  refine ⟨fun z hz => ⟨h0 z hz, h8 z hz⟩, fun z hz => ?_, fun i j z hi hj => ?_, fun q hq hw => ?_⟩
  · have a := h0 z hz
    have b := h8 z hz
    rw [hm z.toNat (by omega)]
    right
    rw [Int.toNat_of_nonneg a]
    exact hz
  · have hi1 := (List.getElem?_eq_some_iff.1 hi)
    have hj1 := (List.getElem?_eq_some_iff.1 hj)
    obtain ⟨hi2, hi3⟩ := hi1
    obtain ⟨hj2, hj3⟩ := hj1
    have np := List.pairwise_iff_getElem.1 nd
    by_cases h1 : i < j
    · exact absurd (hi3.trans hj3.symm) (np i j hi2 hj2 h1)
    · by_cases h2 : j < i
      · exact absurd (hj3.trans hi3.symm) (np j i hj2 hi2 h2)
      · omega
  · rcases (hm q hq).1 hw with hz | hz
    · have : Ta.zero.w q = false := by
        simp only [Ta.w, Ta.zero, List.getD, List.getElem?_replicate]
        split <;> rfl
      rw [this] at hz
      cases hz
    · exact hz

theorem one_vote {t0 t : Ta} {zs : List Int} {k yes no : Nat} (S : Seats t0 zs) (h : One t0 t zs k yes no) {z : Int} (hz : zs[k]? = some z) (hk : k ≤ 1000) {v : Int} (hv : v = 1 ∨ v = 2) :
    t.put z.toNat (1 + k) v = ((t.setE z.toNat (1 + k)).setV z.toNat v, 0) ∧ One t0 ((t.setE z.toNat (1 + k)).setV z.toNat v) zs (k + 1) (yes + if v = 1 then 1 else 0) (no + if v = 1 then 0 else 1) := by
  have hm := List.mem_of_getElem? hz
  have ⟨lo, hi⟩ := S.lo z hm
  have hn : z.toNat < 8 := by omega
  have hw : t.w z.toNat = true := by
    have := S.w z hm
    rw [Ta.w, h.w]
    exact this
  have ⟨h0, he0⟩ := h.fut k z (Nat.le_refl _) hz
  have hl1 := h.len.setE z.toNat (1 + k)
  have r1 := setE_right h.len h.right hn hw (x := 1 + k) (by omega) (by omega)
  have ee : (t.setE z.toNat (1 + k)).e z.toNat = 1 + k := by rw [Ta.e_setE h.len hn, if_pos rfl]
  have r2 := setV_right hl1 r1 hn (show (t.setE z.toNat (1 + k)).w z.toNat = true from hw) (by rw [ee]; omega) (x := v) (by omega) (by omega)
  have vv : ∀ q, ((t.setE z.toNat (1 + k)).setV z.toNat v).v q = if q = z.toNat then v else t.v q := fun q => by
    rw [Ta.v_setV hl1 hn]
    rfl
  have ne : ∀ j x, zs[j]? = some x → j ≠ k → x.toNat ≠ z.toNat := fun j x hx hjk he => by
    have ⟨a, b⟩ := S.lo x (List.mem_of_getElem? hx)
    have : x = z := by omega
    subst this
    exact hjk (S.inj j k x hx hz)
  have hs := h.sum
  refine ⟨put_good h.len h.right hn hw (by omega) (by omega) (by rw [he0]; omega) hv (.inl h0), ⟨hl1.setV _ _, r2, h.w, ?_, ?_, ?_, ?_, ?_, ?_⟩⟩
  · intro j x hj hx
    have hne := ne j x hx (by omega)
    have := h.fut j x (by omega) hx
    rw [vv, if_neg hne]
    refine ⟨this.1, ?_⟩
    show (t.setE z.toNat (1 + k)).e x.toNat = 0
    rw [Ta.e_setE h.len hn, if_neg hne]
    exact this.2
  · intro hp
    rcases hv with rfl | rfl
    · obtain ⟨q, hq, h2⟩ := h.no1 (by simpa using hp)
      refine ⟨q, hq, ?_⟩
      rw [vv, if_neg (fun he => by rw [he, h0] at h2; cases h2)]
      exact h2
    · exact ⟨z.toNat, hn, by rw [vv, if_pos rfl]⟩
  · intro hp q hq
    rcases hv with rfl | rfl
    · rw [vv]
      split
      · decide
      · exact h.no0 (by simpa using hp) q hq
    · simp at hp
  · rcases hv with rfl | rfl <;> simp <;> omega
  · intro hp j x hj hx
    rw [vv]
    split
    · omega
    · rename_i hne
      refine h.all (by rcases hv with rfl | rfl <;> simp at hp <;> omega) j x ?_ hx
      by_cases hjk : j = k
      · subst hjk
        rw [hz] at hx
        injection hx with hx
        exact absurd (by rw [hx]) hne
      · omega
  · intro hp
    obtain ⟨j, x, hj, hx, hv0⟩ := h.som (by rcases hv with rfl | rfl <;> simp at hp <;> omega)
    refine ⟨j, x, by omega, hx, ?_⟩
    rw [vv, if_neg (ne j x hx (by omega))]
    exact hv0

theorem one_end {t0 t : Ta} {zs : List Int} {yes no : Nat} (S : Seats t0 zs) (h : One t0 t zs zs.length yes no) : t.outcome = if 0 < no then 2 else if yes = zs.length then 1 else 0 := by
  have wq : ∀ q, t.w q = t0.w q := fun q => by rw [Ta.w, Ta.w, h.w]
  by_cases hn : 0 < no
  · obtain ⟨q, hq, h2⟩ := h.no1 hn
    rw [if_pos hn, outcome_two h.right hq h2]
  · rw [if_neg hn, outcome_else h.right (h.no0 (by omega))]
    have hs := h.sum
    by_cases hy : yes = zs.length
    · rw [if_pos hy, if_neg]
      rw [Ta.openB, List.any_eq_true]
      rintro ⟨q, hq, hb⟩
      simp at hq hb
      rw [wq] at hb
      have hm := S.mem q hq hb.1
      obtain ⟨j, hj⟩ := List.mem_iff_getElem?.1 hm
      refine h.all (by omega) j q (List.getElem?_eq_some_iff.1 hj).1 hj ?_
      simpa using hb.2
    · rw [if_neg hy, if_pos]
      obtain ⟨j, z, hj, hz, h0⟩ := h.som (by omega)
      have hm := List.mem_of_getElem? hz
      have := S.lo z hm
      rw [Ta.openB, List.any_eq_true]
      refine ⟨z.toNat, by simp; omega, ?_⟩
      rw [wq, S.w z hm, h0]
      rfl

attribute [local irreducible] ld sto Ta.arr

set_option maxRecDepth 100000 in
set_option maxHeartbeats 6400000 in
theorem one_walk (a : Option Addr) (len cap : Nat) (zs : List Int) (a1 : Option Addr) (len1 cap1 : Nat) (zs1 : List Int) (w : World) (hr : IsRow .u8 w a len cap zs) (hr1 : IsRow .u8 w a1 len1 cap1 zs1) :
    Calls Try.prog 7 #[.slice a len cap, .slice a1 len1 cap1] w fun e w' => e = .returned (.bool true) ∧ Below w.heap.size w w' := by
  obtain ⟨hI, hlen, hlc, hcap, hwf⟩ := hr.ints
  obtain ⟨hI1, hlen1, hlc1, hcap1, hwf1⟩ := hr1.ints
  generalize zs.take len = ys at *
  generalize zs1.take len1 = vs at *
  have HI := Lib.hid hI
  have HL := Lib.hid hlen
  have HWF := Lib.hid hwf
  have HC := Lib.hid (And.intro hlc hcap)
  have HI1 := Lib.hid hI1
  have HL1 := Lib.hid hlen1
  have HWF1 := Lib.hid hwf1
  have hll1 : (len1 : Int) ≤ 9223372036854775807 := by omega
  clear hr hI hlen hlc hcap hwf hr1 hI1 hlen1 hlc1 hcap1 hwf1
  go_enter Try.func7, Try.ntmps7
  go_wp2_with fail
  refine (alive_yes _).mono ?_
  rintro e w1 ⟨rfl, BW⟩
  by_cases h100 : (100 : Int) < (len : Int)
  · go_wp2
    go_ret
    exact ⟨rfl, BW⟩
  by_cases h101 : (100 : Int) < (len1 : Int)
  · go_wp2
    go_ret
    exact ⟨rfl, BW⟩
  go_wp2_with fail
  refine (new_is a len cap ys w.heap.size _ (HI.out.below BW) BW.size HL.out HC.out.1 HC.out.2 HWF.out).mono ?_
  rintro e w2 ⟨rfl, hb⟩
  replace BW := below_go hb BW
  clear hb
  rcases new_cases ys with hn | ⟨t, ha, hz, hn⟩
  · rw [hn]
    clear hn
    obtain ⟨s3, c3, d⟩ := nv w2 zero_len
    replace BW := below_go d BW
    clear d
    have l3 := c3.load30 zero_len
    have q := eqz30 Ta.zero zero_len
    simp only [decide_true] at q
    clear c3
    go_wp2
    go_ret
    exact ⟨rfl, BW⟩
  have hf := fresh ha hz
  have hS := seats (fun z hz => (bounds_u8 (HWF.out z hz)).1) ha
  have HS := Lib.hid hS
  have hO := one_start hf ys
  rw [hn]
  have hl := hf.len
  clear hn ha hz hS
  obtain ⟨s3, c3, d⟩ := nv w2 hl
  have hg : w.heap.size ≤ w2.heap.size := BW.size
  replace BW := below_go d BW
  clear d
  have l3 := c3.load30 hl
  clear hf
  go_wp2_with fail
  clear s3 l3
  generalize (w2.alloc (.cells zlit 30)).setRow w2.heap.size t.arr = W at *
  generalize w2.heap.size = g at *
  go_loopw [7, 8, 37] (fun yx nx ix wr => ∃ k : Nat, k ≤ len ∧ ix = .int .i64 k ∧ (∃ m m2 : Nat, yx = .int .i64 m ∧ nx = .int .i64 m2 ∧ m ≤ k ∧ m2 ≤ k ∧ ∃ u, Hid (One t u ys k m m2) ∧ Bx wr g u) ∧ Below w.heap.size w wr) (fun _ _ ix _ => len - (intOf ix).toNat)
  case atStart => exact ⟨0, by omega, rfl, ⟨0, 0, rfl, rfl, by omega, by omega, t, Lib.hid hO, c3⟩, BW⟩
  case round =>
    clear c3 BW hO hl
    rename_i t0
    obtain ⟨k, hk, rfl, ⟨m, m2, rfl, rfl, hm, hm2, t, HO, c3⟩, BW⟩ := hrel
    have hl := HO.out.len
    have hk100 : k ≤ 100 := by omega
    have l5 := c3.load30 hl
    by_cases hlt : k < len
    · obtain ⟨x, hx⟩ : ∃ x, ys[k]? = some x := ⟨_, List.getElem?_eq_getElem (by rw [HL.out]; exact hlt)⟩
      obtain ⟨bb, off, rfl, hcell⟩ := (HI.out.below BW).get hx
      have hxw := HS.out.lo x (List.mem_of_getElem? hx)
      obtain ⟨n, rfl⟩ := Int.eq_ofNat_of_zero_le hxw.1
      have HX := Lib.hid hx
      have hk2 : (k : Int) < (len : Int) := by omega
      clear hx hxw
      by_cases hl1 : (k : Int) < (len1 : Int)
      · obtain ⟨y, hy⟩ : ∃ y, vs[k]? = some y := ⟨_, List.getElem?_eq_getElem (by rw [HL1.out]; omega)⟩
        obtain ⟨b1, off1, rfl, hcell1⟩ := (HI1.out.below BW).get hy
        have hyw := bounds_u8 (HWF1.out y (List.mem_of_getElem? hy))
        clear hy
        have hy3 : y % 3 = 0 ∨ y % 3 = 1 ∨ y % 3 = 2 := by omega
        rcases hy3 with hy3 | hy3 | hy3
        · have HO2 := Lib.hid (one_none HO.out HX.out)
          have C5 := Lib.hid c3
          have BX := Lib.hid BW
          clear c3 BW
          go_wp2_with fail
          go_roundw
          case rel => exact ⟨k + 1, by omega, by go_num, ⟨m, m2, rfl, rfl, by omega, by omega, t, HO2, C5.out⟩, BX.out⟩
          case measure => simp [intOf]; omega
        · have V := one_vote HS.out HO.out HX.out (by omega) (v := 1) (by decide)
          simp only [Int.toNat_natCast] at V
          obtain ⟨hp, hO2⟩ := V
          have PC := Lib.hid (fun W => put_at hl n (1 + k) 1 hp W)
          have hl2 := hO2.len
          have HO2 := Lib.hid hO2
          have HP := Lib.hid hp
          clear hp hO2
          generalize (t.setE n (1 + k)).setV n 1 = u at *
          go_wp2_with fail
          refine (PC.out _).mono ?_
          rintro e w3 ⟨rfl, hb⟩
          replace c3 := c3.below hb
          replace BW := below_go hb BW
          clear hb l5
          obtain ⟨s12, c12, d⟩ := nv w3 hl2
          replace c3 := c3.below d
          replace BW := below_go d BW
          have l12 := c12.load30 hl2
          have s5 := c3.sto30 hl hl2
          have C5 := Lib.hid (c3.row u)
          have BX := Lib.hid (brow BW hg u.arr)
          clear d c12 c3 BW
          go_wp2_with fail
          go_roundw
          case rel => exact ⟨k + 1, by omega, by go_num, ⟨m + 1, m2, by go_num, rfl, by omega, by omega, u, HO2, C5.out⟩, BX.out⟩
          case measure => simp [intOf]; omega
        · have V := one_vote HS.out HO.out HX.out (by omega) (v := 2) (by decide)
          simp only [Int.toNat_natCast] at V
          obtain ⟨hp, hO2⟩ := V
          have PC := Lib.hid (fun W => put_at hl n (1 + k) 2 hp W)
          have hl2 := hO2.len
          have HO2 := Lib.hid hO2
          have HP := Lib.hid hp
          clear hp hO2
          generalize (t.setE n (1 + k)).setV n 2 = u at *
          go_wp2_with fail
          refine (PC.out _).mono ?_
          rintro e w3 ⟨rfl, hb⟩
          replace c3 := c3.below hb
          replace BW := below_go hb BW
          clear hb l5
          obtain ⟨s12, c12, d⟩ := nv w3 hl2
          replace c3 := c3.below d
          replace BW := below_go d BW
          have l12 := c12.load30 hl2
          have s5 := c3.sto30 hl hl2
          have C5 := Lib.hid (c3.row u)
          have BX := Lib.hid (brow BW hg u.arr)
          clear d c12 c3 BW
          go_wp2_with fail
          go_roundw
          case rel => exact ⟨k + 1, by omega, by go_num, ⟨m, m2 + 1, rfl, by go_num, by omega, by omega, u, HO2, C5.out⟩, BX.out⟩
          case measure => simp [intOf]; omega
      · have HO2 := Lib.hid (one_none HO.out HX.out)
        have C5 := Lib.hid c3
        have BX := Lib.hid BW
        clear c3 BW
        go_wp2_with fail
        go_roundw
        case rel => exact ⟨k + 1, by omega, by go_num, ⟨m, m2, rfl, rfl, by omega, by omega, t, HO2, C5.out⟩, BX.out⟩
        case measure => simp [intOf]; omega
    · obtain rfl : k = len := by omega
      have hout := one_end HS.out (by have := HO.out; rw [← HL.out] at this; exact this)
      rw [HL.out] at hout
      have hs := HO.out.sum
      by_cases hno : 0 < m2
      · rw [if_pos hno] at hout
        have hno2 : (0 : Int) < (m2 : Int) := by omega
        go_wp2_with fail
        refine (outcome_at hl hout _).mono ?_
        rintro e w4 ⟨rfl, hb⟩
        replace BW := below_go hb BW
        clear hb
        go_wp2
        go_ret
        exact ⟨rfl, BW⟩
      · rw [if_neg hno] at hout
        have hno2 : ¬ (0 : Int) < (m2 : Int) := by omega
        by_cases hy : m = k
        · rw [if_pos hy] at hout
          have hy2 : ((m : Int) == (k : Int)) = true := by simp; omega
          go_wp2_with fail
          refine (outcome_at hl hout _).mono ?_
          rintro e w4 ⟨rfl, hb⟩
          replace BW := below_go hb BW
          clear hb
          go_wp2
          go_ret
          exact ⟨rfl, BW⟩
        · rw [if_neg hy] at hout
          have hy2 : ((m : Int) == (k : Int)) = false := by simp; omega
          clear hy
          go_wp2_with fail
          refine (outcome_at hl hout _).mono ?_
          rintro e w4 ⟨rfl, hb⟩
          replace BW := below_go hb BW
          clear hb
          go_wp2
          go_ret
          exact ⟨rfl, BW⟩

end Go.Proofs.Ytaodgilfoihkfaa
