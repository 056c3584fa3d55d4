/-
  Code: Decode.
-/
import Derived.Test.YtehgbpepaakanaaDoorDd
namespace Go.Proofs.YtehgbpepaakanaaDoor
open Go.RowKit Go.Shelf
set_option linter.unusedVariables false
set_option linter.unusedSimpArgs false
set_option maxRecDepth 20000

attribute [local go_sem] Oper.semAt_some

theorem strOfNums_strB (s : ByteArray) : strOfNums (strB s) = s := by
  cases s with | mk d =>
  unfold strOfNums strB
  simp only [List.map_map]
  have : (fun n : Int => UInt8.ofNat n.toNat) ∘ (fun b : UInt8 => (b.toNat : Int)) = id := by
    funext b
    simp
  rw [this]
  simp
theorem strB_byts (s : ByteArray) : Byts (strB s) := by
  intro x hx
  simp only [strB, List.mem_map] at hx
  obtain ⟨b, _, rfl⟩ := hx
  have := b.toNat_lt
  omega
theorem encV_byts (c : Nat) (x : CV) : Byts (encV c x) := by
  unfold encV
  split
  · intro y hy
    rcases List.mem_append.1 hy with h | h
    · exact be_byts _ _ y h
    · exact strB_byts _ y h
  · exact be_byts _ _
theorem encAll_byts (cs : List Nat) (vs : List CV) : Byts (encAll cs vs) := by
  unfold encAll
  induction cs generalizing vs with
  | nil => intro y hy; simp at hy
  | cons c r ih =>
    cases vs with
    | nil => intro y hy; simp at hy
    | cons x q =>
      intro y hy
      simp only [List.zipWith_cons_cons, List.flatten_cons, List.mem_append] at hy
      rcases hy with h | h
      · exact encV_byts c x y h
      · exact ih q y h
theorem encAll_drop (cs : List Nat) (vs : List CV) (j c : Nat) (x : CV) (hc : cs[j]? = some c) (hx : vs[j]? = some x) : encAll (cs.drop j) (vs.drop j) = encV c x ++ encAll (cs.drop (j + 1)) (vs.drop (j + 1)) := by
  obtain ⟨h1, rfl⟩ := List.getElem?_eq_some_iff.1 hc
  obtain ⟨h2, rfl⟩ := List.getElem?_eq_some_iff.1 hx
  rw [List.drop_eq_getElem_cons h1, List.drop_eq_getElem_cons h2]
  simp only [encAll, List.zipWith_cons_cons, List.flatten_cons]

def encCV (x : CV) : List Value := [.int .u64 x.n, .string x.s]
theorem encCV_len (x : CV) : (encCV x).length = 2 := rfl
theorem encCV_one (vs : List CV) : ∀ u ∈ cellsOf encCV vs, u.oneCell' = true := by
  intro u hu
  simp only [cellsOf, List.mem_flatMap, encCV, List.mem_cons, List.not_mem_nil, or_false] at hu
  obtain ⟨x, -, rfl | rfl⟩ := hu <;> rfl
theorem Tryd.infoV : (Tryd.prog.info? 83).map (fun i => (i.zero, i.size, i.bytes)) = some (some (.agg #[.int .u64 0, .string ⟨#[]⟩]), 2, 24) := by kernel_rfl
theorem vals_slice {B : Nat} {w : World} {v : Value} {n : Nat} {xs : List Value} (h : w.ownsRow B 83 2 v n xs) : ∃ a d, v = .slice a n d := by
  rcases h.2 with ⟨rfl, h0⟩ | ⟨g, cap, cur, rfl, _⟩
  · exact ⟨none, 0, by rw [h0]⟩
  · exact ⟨_, _, rfl⟩

set_option maxHeartbeats 2000000 in
theorem decode_is (cs : List Nat) (s : ByteArray) (vs : List CV) (a : Option Addr) (m d : Nat) (w : World) (hs : s.size ≤ 100) (ht : Lib.trimS s.data.toList [97, 98, 99, 100, 116] = []) (hcs : s.data.toList.map (fun b => b.toNat) = cs) (hR : BR w a m d (encAll cs vs)) (hlen : cs.length = vs.length)
    (hfit : ∀ (j : Nat) c x, cs[j]? = some c → vs[j]? = some x → Fits c x) (hbig : (encAll cs vs).length ≤ 4000) :
    Calls Tryd.prog 37 #[.string s, .slice a m d] w fun e w' => ∃ a' c', e = .returned (.tuple #[.slice a' vs.length c', .int .i64 0]) ∧ w'.ownsRow w.heap.size 83 2 (.slice a' vs.length c') vs.length (cellsOf encCV vs) ∧ Below w.heap.size w w' := by
  obtain ⟨i0, hi0, hz0, hz1, hz2⟩ := info_parts Tryd.infoV
  have hS := shaped_is s w hs ht
  have hsz : s.size = vs.length := by
    rw [← hlen, ← hcs, List.length_map, Array.length_toList]; rfl
  have hm4 : m ≤ 4000 := by rw [← hR.len]; exact hbig
  have hm5 : ¬ (4000 : Int) < (m : Int) := by omega
  have hne0 : encAll cs vs ≠ [] → ∀ p, a = some p → p.block < w.heap.size := by
    intro hne p hp
    rcases hR with ⟨_, _, h⟩ | ⟨b, off, e, hlt, _⟩
    · exact absurd h hne
    · rw [e] at hp; cases hp; exact hlt
  have HR := Lib.hid hR
  have HNE := Lib.hid hne0
  clear hR hne0
  go_enter Tryd.func37, Tryd.ntmps37
  go_wp2_with (go_at_call 49; refine hS.mono ?_; rintro e w1 ⟨rfl, hB1⟩)
  clear hS
  have hRS0 : RS (w1.alloc (.cells #[.slice a m d, .bool false] 136)) w1.heap.size (encAll cs vs) :=
    ⟨a, m, d, World.alloc_heap_new w1 _, (HR.out.below hB1).below ((Below.refl _ w1).alloc (Nat.le_refl _) _), fun h p hp => Nat.lt_of_lt_of_le (HNE.out h p hp) hB1.size⟩
  have hB2 : Below w.heap.size w (w1.alloc (.cells #[.slice a m d, .bool false] 136)) := hB1.alloc hB1.size _
  have H0 := Lib.hid (And.intro hRS0 hB2)
  have hz1' := hB1.size
  clear hRS0 hB2
  go_loopw [8, 22] (fun lv ix wr => ∃ j : Nat, j ≤ vs.length ∧ ix = .int .i64 j ∧ wr.ownsRow (w1.heap.size + 1) 83 2 lv j (cellsOf encCV (vs.take j)) ∧ RS wr w1.heap.size (encAll (cs.drop j) (vs.drop j)) ∧ Below w.heap.size w wr ∧ w1.heap.size + 1 ≤ wr.heap.size) (fun _ ix _ => vs.length - (RowKit.intOf ix).toNat)
  case atStart => exact ⟨0, by omega, rfl, World.ownsRow_nil _ _ _ _, H0.out.1, H0.out.2, by simp⟩
  case round =>
    obtain ⟨j, hj, rfl, hO, hRS, hB, hz⟩ := hrel
    obtain ⟨a1, c1, rfl⟩ := vals_slice hO
    have hB1s := hB.size
    by_cases hlt : j < vs.length
    · obtain ⟨x, hx⟩ : ∃ x, vs[j]? = some x := ⟨_, List.getElem?_eq_getElem (by omega)⟩
      have hji : (j : Int) < (vs.length : Int) := by omega
      obtain ⟨c, hc⟩ : ∃ c, cs[j]? = some c := ⟨_, List.getElem?_eq_getElem (by omega)⟩
      have hF := hfit j c x hc hx
      have hlt' : j < s.size := by omega
      have hcj : s[j].toNat = c := by
        rw [← hcs, List.getElem?_map] at hc
        have e : s.data.toList[j]? = some s[j] := by
          rw [Array.getElem?_toList, Array.getElem?_eq_getElem hlt']; rfl
        rw [e] at hc
        simpa using hc
      have hnext : cellsOf encCV (vs.take (j + 1)) = cellsOf encCV (vs.take j) ++ encCV x := by
        rw [List.take_add_one, hx, Option.toList_some, cellsOf_append, cellsOf_one]
      have hdrop := encAll_drop cs vs j c x hc hx
      obtain ⟨rest, hrest⟩ : ∃ rest, rest = encAll (cs.drop (j + 1)) (vs.drop (j + 1)) := ⟨_, rfl⟩
      rw [hdrop, ← hrest] at hRS
      have hbr : Byts (encV c x ++ rest) := by
        intro y hy
        rcases List.mem_append.1 hy with h | h
        · exact encV_byts c x y h
        · rw [hrest] at h; exact encAll_byts _ _ y h
      have HN := Lib.hid hnext
      have HRest := Lib.hid hrest
      have HO := Lib.hid hO
      have HRS := Lib.hid hRS
      have HB := Lib.hid hB
      have HWD := fun w' => Lib.hid (width_is c hF.1 w')
      clear hO hRS hB hx hc hnext hdrop hrest H0 HR HNE
      by_cases h116 : c = 116
      · subst h116
        have hF2 := hF.2
        rw [if_pos rfl] at hF2
        obtain ⟨hxn, hxs⟩ := hF2
        have h65 : x.s.size < 256 ^ 2 := Nat.lt_of_le_of_lt hxs (by decide)
        have hev : encV 116 x = be 2 x.s.size ++ strB x.s := by unfold encV; rw [if_pos rfl]
        rw [hev, List.append_assoc] at HRS hbr
        have hnum := number58 w1.heap.size (be 2 x.s.size ++ (strB x.s ++ rest)) 2 wr HRS.out (by rw [List.length_append, be_len]; omega) (by decide) hbr
        rw [List.take_left' (be_len _ _), List.drop_left' (be_len _ _), ofBe_be 2 x.s.size h65] at hnum
        have HNum := Lib.hid hnum
        have hw0 : widthOf 116 = 0 := rfl
        have hxs' : ¬ (2000 : Int) < (x.s.size : Int) := by omega
        clear hnum hev hbr
        go_wp2_with fail
        refine (HWD _).out.mono ?_
        rintro e w3 ⟨rfl, rfl⟩
        rw [hw0]
        go_wp2_with fail
        refine HNum.out.mono ?_
        rintro e w4 ⟨rfl, hRS4, hU4⟩
        have hO4 := ownsRow_upd HO.out hU4 (fun k hk e => by have := (HO.out.lt k hk).1; omega)
        have hz4 := hU4.size
        have hB4 : Below w.heap.size w w4 := HB.out.trans (hU4.below (by omega) (fun i hi e => by omega))
        have htk := take_is w1.heap.size (strB x.s ++ rest) x.s.size w4 hRS4 (by rw [List.length_append, strB_len]; omega)
        rw [List.take_left' (strB_len _), List.drop_left' (strB_len _)] at htk
        have HTk := Lib.hid htk
        have HO4' := Lib.hid hO4
        have HB4' := Lib.hid hB4
        clear hRS4 hU4 hO4 hB4 htk
        go_wp2_with fail
        refine HTk.out.mono ?_
        rintro e w6 ⟨a6, d6, rfl, hR6, hRS6, hU6⟩
        have hstr := hR6.str
        rw [strOfNums_strB] at hstr
        have hO6 := ownsRow_upd HO4'.out hU6 (fun k hk e => by have := (HO4'.out.lt k hk).1; omega)
        have hz6 := hU6.size
        have HO6 := Lib.hid (ownsRow_upd hO6 ((Upd.refl (fun _ => False) w6).alloc (.cells #[.int .u64 0, .string x.s] 83)) (fun _ _ h => h))
        have HRS6 := Lib.hid hRS6
        have HB6 := Lib.hid (HB4'.out.trans (hU6.below (by omega) (fun i hi e => by omega)))
        clear hR6 hRS6 hU6 hO6
        go_wp2_with (at_builtin; refine wpList_append_own_at _ rfl _ _ 79 rfl (w1.heap.size + 1) 83 i0 (.agg #[.int .u64 0, .string ⟨#[]⟩]) 2 24 Tryd.underlying79 hi0 hz0 hz1 hz2 rfl (by decide) _ _ _ rfl HO6.out ⟨w6.heap.size, 0, none⟩ 1 1 [.int .u64 0, .string x.s] rfl ?qa1 ?qa2 ?qa3 ?qa4 ?qa5 ?qa6 ?_)
        case qa1 => rfl
        case qa2 =>
          intro q u hu
          rw [Addr.add_lit, blk_cell (World.alloc_heap_new w6 _), Nat.zero_add]
          rw [← List.getElem?_toArray] at hu
          exact hu
        case qa3 =>
          intro u hu
          simp only [List.mem_cons, List.not_mem_nil, or_false] at hu
          rcases hu with rfl | rfl <;> rfl
        case qa4 => unfold maxLen; omega
        case qa5 => omega
        case qa6 => simp; omega
        intro v5 w5 hown5 hgrow5 hnil5 hat5
        have hU5 := Upd.of_grown hgrow5
        have hU65 : Upd (fun k => w1.heap.size + 1 ≤ k) w6 w5 := ((Upd.refl (fun k => w1.heap.size + 1 ≤ k) w6).alloc _).trans hU5 (fun i hi hs => by have := (HO6.out.lt i hs).1; omega)
        have hRS5 := HRS6.out.keep hU65 (fun k hk => by omega)
        have hB5 : Below w.heap.size w w5 := HB6.out.trans (hU65.below (by omega) (fun i hi hs => by omega))
        have hown6 : w5.ownsRow (w1.heap.size + 1) 83 2 v5 (j + 1) (cellsOf encCV (vs.take (j + 1))) := by
          rw [HN.out]
          unfold encCV
          rw [hxn]
          exact hown5
        rw [HRest.out] at hRS5
        have HE := Lib.hid (And.intro hown6 (And.intro hRS5 (And.intro hB5 (Nat.le_trans (show w1.heap.size + 1 ≤ w6.heap.size by omega) hU65.size))))
        clear hown5 hgrow5 hnil5 hat5 hU5 hU65 hRS5 hB5 hown6
        go_wp2_with fail
        go_roundw
        case rel => exact ⟨j + 1, by omega, by go_num, HE.out.1, HE.out.2.1, HE.out.2.2.1, HE.out.2.2.2⟩
        case measure => simp [RowKit.intOf]; omega
      · have hF2 := hF.2
        rw [if_neg h116] at hF2
        obtain ⟨hxs, hxn⟩ := hF2
        have hwd : 1 ≤ widthOf c ∧ widthOf c ≤ 8 := by rcases hF.1 with rfl | rfl | rfl | rfl | rfl <;> first | decide | exact absurd rfl h116
        have hwp : (0 : Int) < ((widthOf c : Nat) : Int) := by omega
        have hev : encV c x = be (widthOf c) x.n := by unfold encV; rw [if_neg h116]
        rw [hev] at HRS hbr
        have hnum := number58 w1.heap.size (be (widthOf c) x.n ++ rest) (widthOf c) wr HRS.out (by rw [List.length_append, be_len]; omega) hwd.2 hbr
        rw [List.take_left' (be_len _ _), List.drop_left' (be_len _ _), ofBe_be _ _ hxn] at hnum
        have HNum := Lib.hid hnum
        obtain ⟨wd, hwdd⟩ : ∃ wd, wd = widthOf c := ⟨_, rfl⟩
        rw [← hwdd] at hwd hwp HNum HWD
        clear hnum hev hwdd hbr
        go_wp2_with fail
        refine (HWD _).out.mono ?_
        rintro e w3 ⟨rfl, rfl⟩
        go_wp2_with fail
        refine HNum.out.mono ?_
        rintro e w4 ⟨rfl, hRS4, hU4⟩
        have hO4 := ownsRow_upd HO.out hU4 (fun k hk e => by have := (HO.out.lt k hk).1; omega)
        have hz4 := hU4.size
        have HO4 := Lib.hid (ownsRow_upd hO4 ((Upd.refl (fun _ => False) w4).alloc (.cells #[.int .u64 x.n, .string ⟨#[]⟩] 83)) (fun _ _ h => h))
        have HRS4 := Lib.hid hRS4
        have hB4 : Below w.heap.size w w4 := HB.out.trans (hU4.below (by omega) (fun i hi e => by omega))
        have HB4 := Lib.hid hB4
        clear hRS4 hU4 hO4 hB4
        go_wp2_with (at_builtin; refine wpList_append_own_at _ rfl _ _ 79 rfl (w1.heap.size + 1) 83 i0 (.agg #[.int .u64 0, .string ⟨#[]⟩]) 2 24 Tryd.underlying79 hi0 hz0 hz1 hz2 rfl (by decide) _ _ _ rfl HO4.out ⟨w4.heap.size, 0, none⟩ 1 1 [.int .u64 x.n, .string ⟨#[]⟩] rfl ?qa1 ?qa2 ?qa3 ?qa4 ?qa5 ?qa6 ?_)
        case qa1 => rfl
        case qa2 =>
          intro q u hu
          rw [Addr.add_lit, blk_cell (World.alloc_heap_new w4 _), Nat.zero_add]
          rw [← List.getElem?_toArray] at hu
          exact hu
        case qa3 =>
          intro u hu
          simp only [List.mem_cons, List.not_mem_nil, or_false] at hu
          rcases hu with rfl | rfl <;> rfl
        case qa4 => unfold maxLen; omega
        case qa5 => omega
        case qa6 => simp; omega
        intro v5 w5 hown5 hgrow5 hnil5 hat5
        have hU5 := Upd.of_grown hgrow5
        have hU45 : Upd (fun k => w1.heap.size + 1 ≤ k) w4 w5 := ((Upd.refl (fun k => w1.heap.size + 1 ≤ k) w4).alloc _).trans hU5 (fun i hi hs => by have := (HO4.out.lt i hs).1; omega)
        have hRS5 := HRS4.out.keep hU45 (fun k hk => by omega)
        have hB5 : Below w.heap.size w w5 := HB4.out.trans (hU45.below (by omega) (fun i hi hs => by omega))
        have hown6 : w5.ownsRow (w1.heap.size + 1) 83 2 v5 (j + 1) (cellsOf encCV (vs.take (j + 1))) := by
          rw [HN.out]
          unfold encCV
          rw [hxs]
          exact hown5
        rw [HRest.out] at hRS5
        have HE := Lib.hid (And.intro hown6 (And.intro hRS5 (And.intro hB5 (Nat.le_trans (show w1.heap.size + 1 ≤ w4.heap.size by omega) hU45.size))))
        clear hown5 hgrow5 hnil5 hat5 hU5 hU45 hRS5 hB5 hown6
        go_wp2_with fail
        go_roundw
        case rel => exact ⟨j + 1, by omega, by go_num, HE.out.1, HE.out.2.1, HE.out.2.2.1, HE.out.2.2.2⟩
        case measure => simp [RowKit.intOf]; omega
    · obtain rfl : j = vs.length := by omega
      rw [List.take_of_length_le (Nat.le_refl _)] at hO
      have hnil : encAll (cs.drop vs.length) (vs.drop vs.length) = [] := by
        rw [List.drop_of_length_le (Nat.le_refl _)]
        simp [encAll]
      rw [hnil] at hRS
      obtain ⟨ar, mr, dr, hbox, hbr, -⟩ := hRS
      obtain rfl : mr = 0 := by have := hbr.len; simpa using this.symm
      have c0 := blk_cell hbox 0
      have c1 := blk_cell hbox 1
      simp at c0 c1
      have HO := Lib.hid hO
      clear hO hnil hbox hbr H0
      go_wp2_with fail
      go_ret2
      exact ⟨a1, _, rfl, ownsRow_base HO.out (fun g hg => by have := (HO.out.lt g hg).1; omega), hB⟩
end Go.Proofs.YtehgbpepaakanaaDoor
