/-
  The reference's functions on lists of int64.
-/
import Derived.Test.YthehhnlkpcfofaaThr
import Derived.Laws.AppendOwnNone
namespace Go.Proofs.Ythehhnlkpcfofaa
open Go.RowKit
set_option linter.unusedVariables false

set_option maxHeartbeats 400000 in
theorem rRight_yes (room : Int) (w : World) (h1 : 1 ≤ room) (h2 : room ≤ 10000) :
    Calls Try.prog 16 #[.int .i64 room] w fun e w' => e = .returned (.bool true) ∧ w = w' := by
  go_enter Try.func16, Try.ntmps16
  go_wp2
  go_ret
  exact ⟨rfl, rfl⟩
set_option maxHeartbeats 400000 in
theorem rRight_no (room : Int) (w : World) (h : room < 1 ∨ 10000 < room) :
    Calls Try.prog 16 #[.int .i64 room] w fun e w' => e = .returned (.bool false) ∧ w = w' := by
  rcases h with h | h
  · go_enter Try.func16, Try.ntmps16
    go_wp2
    go_ret
    exact ⟨rfl, rfl⟩
  · have h' : 1 ≤ room := by omega
    have hd : decide (room ≤ 10000) = false := by simpa using h
    go_enter Try.func16, Try.ntmps16
    go_wp2
    go_ret
    exact ⟨rfl, rfl⟩

/-- A list of the reference's: a slice of n elements that owns the cells of zs, from block B on. -/
def MS (w : World) (B : Nat) (v : Value) (zs : List Int) : Prop := w.ownsRow B 2 1 v zs.length (cellsOf enc1 zs)

theorem MS.ints {w : World} {B : Nat} {a : Option Addr} {n c : Nat} {zs : List Int} (h : MS w B (.slice a n c) zs) : n = zs.length ∧ Ints .i64 w.heap.size w a zs := by
  obtain ⟨a', c', e⟩ := own_slice h
  simp only [Value.slice.injEq] at e
  obtain ⟨rfl, rfl, rfl⟩ := e
  exact ⟨rfl, ints_of_own h rfl⟩

set_option maxHeartbeats 400000 in
theorem rAt_in (a : Option Addr) (c : Nat) (zs : List Int) (i : Int) (w : World) (h : Ints .i64 w.heap.size w a zs) (hz : (zs.length : Int) ≤ 10000) (h0 : 0 ≤ i) (x : Int) (hx : zs[i.toNat]? = some x) :
    Calls Try.prog 17 #[.slice a zs.length c, .int .i64 i] w fun e w' => e = .returned (.tuple #[.int .i64 x, .int .i64 0]) ∧ w = w' := by
  obtain ⟨b, off, rfl, hc⟩ := h.get hx
  have hlt := (List.getElem?_eq_some_iff.1 hx).1
  have hi : i < (zs.length : Int) := by omega
  have HX := Lib.hid hx
  clear hx h
  go_enter Try.func17, Try.ntmps17
  go_wp2
  go_ret2
  exact ⟨rfl, rfl⟩

set_option maxHeartbeats 400000 in
theorem rAt_out (a : Option Addr) (n c : Nat) (i : Int) (w : World) (hz : (n : Int) ≤ 10000) (hi : i < 0 ∨ (n : Int) ≤ i) :
    Calls Try.prog 17 #[.slice a n c, .int .i64 i] w fun e w' => e = .returned (.tuple #[.int .i64 0, .int .i64 7]) ∧ w = w' := by
  rcases hi with hi | hi
  · go_enter Try.func17, Try.ntmps17
    go_wp2
    go_ret2
    exact ⟨rfl, rfl⟩
  · have hi2 : ¬ i < 0 := by omega
    go_enter Try.func17, Try.ntmps17
    go_wp2
    go_ret2
    exact ⟨rfl, rfl⟩

set_option maxHeartbeats 400000 in
theorem rDrop_out (a : Option Addr) (n c : Nat) (i : Int) (w : World) (hz : (n : Int) ≤ 10000) (hi : i < 0 ∨ (n : Int) ≤ i) :
    Calls Try.prog 18 #[.slice a n c, .int .i64 i] w fun e w' => e = .returned (.tuple #[.slice a n c, .int .i64 7]) ∧ w = w' := by
  rcases hi with hi | hi
  · go_enter Try.func18, Try.ntmps18
    go_wp2
    go_ret2
    exact ⟨rfl, rfl⟩
  · have hi2 : ¬ i < 0 := by omega
    go_enter Try.func18, Try.ntmps18
    go_wp2
    go_ret2
    exact ⟨rfl, rfl⟩

/-- What is left when the one at i is let go, among the first k. -/
def dropped (zs : List Int) (i k : Nat) : List Int := if i < k then (zs.take k).eraseIdx i else zs.take k
theorem dropped_skip (zs : List Int) (i : Nat) (hi : i < zs.length) : dropped zs i (i + 1) = dropped zs i i := by
  unfold dropped
  rw [if_pos (by omega), if_neg (by omega), List.eraseIdx_eq_take_drop_succ, List.take_take, List.drop_eq_nil_iff.2 (by rw [List.length_take]; omega), List.append_nil]
  congr 1; omega
theorem dropped_next (zs : List Int) (i k : Nat) (x : Int) (hk : k ≠ i) (hx : zs[k]? = some x) : dropped zs i (k + 1) = dropped zs i k ++ [x] := by
  have hlt := (List.getElem?_eq_some_iff.1 hx).1
  unfold dropped
  by_cases h : i < k
  · rw [if_pos (by omega), if_pos h, take_snoc2 zs k x hx, List.eraseIdx_append_of_lt_length (by rw [List.length_take]; omega)]
  · rw [if_neg (by omega), if_neg h, take_snoc2 zs k x hx]
theorem dropped_all (zs : List Int) (i : Nat) (hi : i < zs.length) : dropped zs i zs.length = zs.eraseIdx i := by
  unfold dropped; rw [if_pos hi, List.take_length]
theorem dropped_le (zs : List Int) (i k : Nat) : (dropped zs i k).length ≤ k := by
  unfold dropped
  split
  · have := List.length_eraseIdx_le (zs.take k) i; rw [List.length_take] at this; omega
  · rw [List.length_take]; omega

set_option maxHeartbeats 1000000 in
theorem rDrop_in (a : Option Addr) (c : Nat) (zs : List Int) (i : Nat) (w : World) (h : Ints .i64 w.heap.size w a zs) (hz : (zs.length : Int) ≤ 10000) (hi : i < zs.length) :
    Calls Try.prog 18 #[.slice a zs.length c, .int .i64 i] w fun e w' => ∃ v', e = .returned (.tuple #[v', .int .i64 0]) ∧ MS w' w.heap.size v' (zs.eraseIdx i) ∧ Below w.heap.size w w' := by
  obtain ⟨i0, hi0, hz0, hz1, hz2⟩ := info_parts Try.infoE
  obtain ⟨b, off, rfl, hb, hcs⟩ := h.get_hid (by omega)
  have HC := Lib.hid hcs
  have hii : ¬ (i : Int) < 0 := by omega
  have hil : (i : Int) < (zs.length : Int) := by omega
  clear hcs h
  go_enter Try.func18, Try.ntmps18
  go_wp2
  go_loopw [6, 7] (fun sv ix wr => ∃ (k : Nat) (v : Value), k ≤ zs.length ∧ ix = .int .i64 k ∧ v = sv ∧ MS wr w.heap.size v (dropped zs i k) ∧ Below w.heap.size w wr) (fun _ ix _ => zs.length - (intOf ix).toNat)
  case atStart => exact ⟨0, _, Nat.zero_le _, rfl, rfl, by unfold dropped MS; rw [if_neg (by omega)]; exact World.ownsRow_nil _ _ _ _, Below.refl _ _⟩
  case round =>
    obtain ⟨k, v, hk, rfl, rfl, hM, hB⟩ := hrel
    have hMS : MS wr w.heap.size v (dropped zs i k) := hM
    by_cases hlt : k < zs.length
    · obtain ⟨x, hx⟩ : ∃ x, zs[k]? = some x := ⟨_, List.getElem?_eq_getElem hlt⟩
      have hcell := (hB.cell (p := ⟨b, off + k, none⟩) hb).trans (HC.out k x hx)
      by_cases hki : k = i
      · subst hki
        have HS := Lib.hid (dropped_skip zs k hi)
        clear hx hcell
        go_wp2
        go_roundw
        case rel => exact ⟨k + 1, v, by omega, by go_num, rfl, by rw [HS.out]; exact hMS, hB⟩
        case measure => simp [intOf]; omega
      · have hki2 : ¬ (k : Int) = (i : Int) := by omega
        have HN := Lib.hid (dropped_next zs i k x hki hx)
        have hle := dropped_le zs i k
        have hown1 : (wr.alloc (.cells #[.int .i64 x] 2)).ownsRow w.heap.size 2 1 v (dropped zs i k).length (cellsOf enc1 (dropped zs i k)) := World.ownsRow.alloc (w := wr) hM _
        have hsz := hB.size
        clear hx hM
        go_wp2_with (at_builtin; refine wpList_append_own _ rfl (.tmp 26) (.tmp 31) 22 rfl w.heap.size 2 i0 _ 1 8 Try.underlying22 hi0 hz0 hz1 hz2 rfl (by decide) _ _ _ rfl hown1 ⟨wr.heap.size, 0, none⟩ 1 1 [.int .i64 x] rfl rfl ?c1 ?c2 ?c3 ?c4 ?c5 ?_)
        case c1 => exact cell_one_new wr _ _
        case c2 => intro u hu; simp at hu; subst hu; rfl
        case c3 => unfold maxLen; omega
        case c4 => omega
        case c5 => simp; omega
        intro v' w1 hown' hgrow _
        have hM1 : Hid (MS w1 w.heap.size v' (dropped zs i (k + 1))) := by
          rw [Hid, HN.out, MS, List.length_append, cellsOf_append, cellsOf_one]; exact hown'
        have hB1 : Below w.heap.size w w1 := (hB.alloc hsz _).grown hgrow (by simp; omega) (fun q hq => (hMS.lt q hq).1)
        clear hown1 hown' hgrow hMS
        go_wp2
        go_roundw
        case rel => exact ⟨k + 1, v', by omega, by go_num, rfl, hM1.out, hB1⟩
        case measure => simp [intOf]; omega
    · obtain rfl : k = zs.length := by omega
      rw [dropped_all zs i hi] at hMS
      clear hM
      go_wp2
      go_ret2
      exact ⟨_, rfl, hMS, hB⟩

set_option maxHeartbeats 400000 in
theorem rPush_full (a : Option Addr) (n c : Nat) (room x : Int) (w : World) (hz : (n : Int) ≤ 10000) (hn : room ≤ (n : Int)) :
    Calls Try.prog 21 #[.slice a n c, .int .i64 room, .int .i64 x] w fun e w' => e = .returned (.tuple #[.slice a n c, .int .i64 6]) ∧ w = w' := by
  go_enter Try.func21, Try.ntmps21
  go_wp2
  go_ret2
  exact ⟨rfl, rfl⟩

theorem MS.below {w w' : World} {B : Nat} {v : Value} {zs : List Int} (h : MS w B v zs) (hb : Below w.heap.size w w') : MS w' B v zs :=
  ownsRow_upd h (Upd.of_below hb (fun _ => False)) (fun _ _ h => h)

set_option maxRecDepth 100000 in
set_option maxHeartbeats 1000000 in
theorem rPush_ok (B : Nat) (a : Option Addr) (n c : Nat) (zs : List Int) (room x : Int) (w : World) (h : MS w B (.slice a n c) zs) (hz : (zs.length : Int) < 10000) (hn : (zs.length : Int) < room) :
    Calls Try.prog 21 #[.slice a n c, .int .i64 room, .int .i64 x] w fun e w' => ∃ v', e = .returned (.tuple #[v', .int .i64 0]) ∧ MS w' w.heap.size v' (zs ++ [x]) ∧ Below w.heap.size w w' := by
  obtain ⟨i0, hi0, hz0, hz1, hz2⟩ := info_parts Try.infoE
  obtain ⟨rfl, hI⟩ := h.ints
  have hO : Hid (∀ u ∈ cellsOf enc1 zs, u.oneCell' = true) := enc1_one zs
  have hL : Hid ((cellsOf enc1 zs).length = zs.length * 1) := cellsOf_length enc1 1 enc1_len zs
  have hn2 : ¬ room ≤ (zs.length : Int) := by omega
  obtain ⟨w1, hw1⟩ : ∃ w1, w.alloc (.cells #[] 2) = w1 := ⟨_, rfl⟩
  have hz1' : w1.heap.size = w.heap.size + 1 := by rw [← hw1]; simp
  have hB1 : Below w.heap.size w w1 := by rw [← hw1]; exact (Below.refl _ w).alloc (Nat.le_refl _) _
  have hown0 : w1.ownsRow w.heap.size 2 1 (.slice (some ⟨w.heap.size, 0, none⟩) 0 0) 0 [] := by rw [← hw1]; exact World.ownsRow_made w #[] 0 (Nat.le_refl _) (Nat.zero_le _) rfl
  have hmid : ∀ (v : Value) (w2 : World), w2.ownsRow w.heap.size 2 1 v zs.length (cellsOf enc1 zs) → (w2.alloc (.cells #[.int .i64 x] 2)).ownsRow w.heap.size 2 1 v zs.length (cellsOf enc1 zs) := fun v w2 h => World.ownsRow.alloc (w := w2) h _
  have HM := Lib.hid hmid
  have HW := Lib.hid hw1
  clear hmid
  rcases h.2 with ⟨h0, h1⟩ | ⟨g, cap, cur, hv, hb, hcur, hnc, hcm, hsz, htake⟩
  · simp only [Value.slice.injEq] at h0
    obtain ⟨rfl, h1', rfl⟩ := h0
    obtain rfl : zs = [] := List.length_eq_zero_iff.1 h1'
    clear h hI hw1
    simp only [List.length_nil] at *
    go_enter Try.func21, Try.ntmps21
    have hown2 := HM.out _ w1 hown0
    have hsz2 := hB1.size
    go_wp2_with (first
      | (at_builtin; (try rw [HW.out]); refine wpList_append_own_none rfl (.tmp 14) (.tmp 15) 22 rfl w.heap.size 2 i0 1 Try.underlying22 hi0 _ _ _ rfl hown0 rfl ?_)
      | (at_builtin; refine wpList_append_own _ rfl (.tmp 17) (.tmp 19) 22 rfl w.heap.size 2 i0 _ 1 8 Try.underlying22 hi0 hz0 hz1 hz2 rfl (by decide) _ _ _ rfl hown2 ⟨w.heap.size + 1, 0, none⟩ 1 1 [.int .i64 x] rfl rfl ?e1 ?e2 ?e3 ?e4 ?e5 ?_))
    case e2 => rfl
    case e3 => unfold maxLen; omega
    case e5 => omega
    intro v2 w3 hown4 hgrow4 _
    have hB3 : Below w.heap.size w w3 := (hB1.alloc hsz2 _).grown hgrow4 (by simp; omega) (fun q hq => (hown0.lt q hq).1)
    have hM3 : MS w3 w.heap.size v2 [x] := hown4
    clear hown2 hown4 hgrow4
    go_wp2
    go_ret2
    exact ⟨_, rfl, hM3, hB3⟩
  · simp only [Value.slice.injEq] at hv
    obtain ⟨rfl, _, rfl⟩ := hv
    have hcells : Hid (∀ j u, (cellsOf enc1 zs)[j]? = some u → w1.cell? ((⟨g, 0, none⟩ : Addr).add j) = some u) := by
      intro j u hu
      have hj : j < zs.length * 1 := by have := (List.getElem?_eq_some_iff.1 hu).1; rwa [cellsOf_length enc1 1 enc1_len] at this
      rw [Addr.add_lit, Nat.zero_add]
      refine (hB1.cell (p := ⟨g, j, none⟩) (lt_of_heap hcur)).trans ?_
      rw [blk_cell hcur, ← hu, ← htake, List.getElem?_take, if_pos hj]
      simp
    clear h hI htake hcur hsz hw1
    go_enter Try.func21, Try.ntmps21
    go_wp2_with (at_builtin; (try rw [HW.out]); refine wpList_append_own _ rfl (.tmp 14) (.tmp 15) 22 rfl w.heap.size 2 i0 _ 1 8 Try.underlying22 hi0 hz0 hz1 hz2 rfl (by decide) _ _ _ rfl hown0 ⟨g, 0, none⟩ zs.length c (cellsOf enc1 zs) rfl hL.out hcells.out hO.out ?c3 ?c4 hB1.size ?_)
    case c3 => unfold maxLen; omega
    case c4 => omega
    intro v' w2 hown' hgrow _
    have hgB : Below w.heap.size w w2 := hB1.grown hgrow hB1.size (fun q hq => by simp [Value.ownBlock] at hq; omega)
    have hown2 := HM.out v' w2 hown'
    have hsz2 := hgB.size
    have hown3 := hown'
    clear hown' hgrow
    go_wp2_with (at_builtin; refine wpList_append_own _ rfl (.tmp 17) (.tmp 19) 22 rfl w.heap.size 2 i0 _ 1 8 Try.underlying22 hi0 hz0 hz1 hz2 rfl (by decide) _ _ _ rfl hown2 ⟨w2.heap.size, 0, none⟩ 1 1 [.int .i64 x] rfl rfl ?d1 ?d2 ?d3 ?d4 ?d5 ?_)
    case d1 => exact cell_one_new w2 _ _
    case d2 => intro u hu; simp at hu; subst hu; rfl
    case d3 => unfold maxLen; omega
    case d4 => omega
    case d5 => simp; omega
    intro v2 w3 hown4 hgrow4 _
    have hB3 : Below w.heap.size w w3 := (hgB.alloc hsz2 _).grown hgrow4 (by simp; omega) (fun q hq => (hown3.lt q hq).1)
    have hM3 : MS w3 w.heap.size v2 (zs ++ [x]) := by rw [MS, List.length_append, cellsOf_append, cellsOf_one]; exact hown4
    clear hown2 hown4 hgrow4 hown3
    go_wp2
    go_ret2
    exact ⟨_, rfl, hM3, hB3⟩

end Go.Proofs.Ythehhnlkpcfofaa
