/-
  Code: Encode.
-/
import Derived.Test.YtehgbpepaakanaaDoorCa
import Derived.Lib.AppendStr
namespace Go.Proofs.YtehgbpepaakanaaDoor
open Go.RowKit Go.Shelf
set_option linter.unusedVariables false
set_option linter.unusedSimpArgs false
set_option maxRecDepth 20000

theorem cell_block' {w w' : World} {p : Addr} (h : w'.heap[p.block]? = w.heap[p.block]?) : w'.cell? p = w.cell? p := by simp only [World.cell?, h]

/-- append(b, s...), s a string, as a step of a region that draws. -/
theorem step_append_str {P : Program} {w : World} {ops : Array Oper} {o : Oper} {a : Act} {K : Act → World → Prop} {Q : Exit → Act → World → Prop} {E : Prop} (hw : Region.wanted o (yielded ops a.tmps) = true) (sl x : Operand) (t u : TypeId)
    (ho : o.op = .call { callee := .builtin .append, args := #[sl, x], argTypes := #[t, u] })
    (base : Nat) (e : TypeId) (i : TypeInfo) (ht : P.underlying t = some (.slice e)) (hu : P.underlying u = some .string) (hi : P.info? e = some i) (hz : i.zero = some (.int .u8 0))
    (hsize : i.size = 1) (hby : i.bytes = 1)
    (v : Value) (n : Nat) (xs : List Value) (hs : a.eval sl = v) (hown : w.ownsRow base e 1 v n xs) (s : ByteArray) (hx : a.eval x = .string s)
    (h63 : n + s.size ≤ maxLen) (hbytes : n + s.size ≤ 140737488355328) (hbase : base ≤ w.heap.size)
    (h : ∀ v' w', w'.ownsRow base e 1 v' (n + s.size) (xs ++ Lib.strCells s) → w.grownBy w' v.ownBlock → K (a.put o.dst v') w') :
    if Region.wanted o (yielded ops a.tmps) = true then Oper.wp P o a w K Q else E := by
  rw [if_pos hw]
  obtain ⟨v', w', hr, h2, h3, h4⟩ := Lib.run_append_own_string (P := P) w base t u o.type e i ht hu hi hz hsize hby v n xs hown s h63 hbytes hbase
  unfold Oper.wp execOp
  simp only [ho, resolve, invoke, builtin, Sem.run_bind, Sem.run_pure, Result.andThen_ok, List.map_toArray, List.map_cons, List.map_nil, hs, hx, hr]
  exact h v' w' h2 h3

/-- A value of code. -/
structure CV where
  n : Nat
  s : ByteArray
def strB (s : ByteArray) : List Int := s.data.toList.map fun b => (b.toNat : Int)
theorem strB_len (s : ByteArray) : (strB s).length = s.size := by rw [strB, List.length_map, Array.length_toList]; rfl
theorem strCells_eq (s : ByteArray) : Lib.strCells s = cellsOf encB (strB s) := by
  unfold Lib.strCells strB cellsOf encB
  induction s.data.toList with
  | nil => rfl
  | cons b r ih => simp only [List.map_cons, List.flatMap_cons, ih]; rfl
def RV (w : World) (a : Option Addr) (vs : List CV) : Prop :=
  vs = [] ∨ ∃ b off, a = some ⟨b, off, none⟩ ∧ b < w.heap.size ∧ ∀ (j : Nat) (x : CV), vs[j]? = some x → w.cell? ⟨b, off + j * 2, none⟩ = some (.int .u64 x.n) ∧ w.cell? ⟨b, off + j * 2 + 1, none⟩ = some (.string x.s)
theorem RV.below {w w' : World} {a : Option Addr} {vs : List CV} (h : RV w a vs) (hb : Below w.heap.size w w') : RV w' a vs := by
  rcases h with h | ⟨b, off, rfl, hlt, hc⟩
  · exact .inl h
  · exact .inr ⟨b, off, rfl, Nat.lt_of_lt_of_le hlt hb.size, fun j x hx => ⟨(hb.cell (p := ⟨b, _, none⟩) hlt).trans (hc j x hx).1, (hb.cell (p := ⟨b, _, none⟩) hlt).trans (hc j x hx).2⟩⟩
theorem RV.get {w : World} {a : Option Addr} {vs : List CV} (h : RV w a vs) {j : Nat} {x : CV} (hx : vs[j]? = some x) : ∃ b off, a = some ⟨b, off, none⟩ ∧ w.cell? ⟨b, off + j * 2, none⟩ = some (.int .u64 x.n) ∧ w.cell? ⟨b, off + j * 2 + 1, none⟩ = some (.string x.s) := by
  rcases h with rfl | ⟨b, off, rfl, hlt, hc⟩
  · simp at hx
  · exact ⟨b, off, rfl, hc j x hx⟩

/-- A letter of a shape. -/
def Letter (c : Nat) : Prop := c = 97 ∨ c = 98 ∨ c = 99 ∨ c = 100 ∨ c = 116
def widthOf (c : Nat) : Nat := if c = 116 then 0 else 2 ^ (c - 97)
/-- A value that fits a letter. -/
def Fits (c : Nat) (x : CV) : Prop := Letter c ∧ (if c = 116 then x.n = 0 ∧ x.s.size ≤ 2000 else x.s = ⟨#[]⟩ ∧ x.n < 256 ^ widthOf c)
def encV (c : Nat) (x : CV) : List Int := if c = 116 then be 2 x.s.size ++ strB x.s else be (widthOf c) x.n
def encAll (cs : List Nat) (vs : List CV) : List Int := (List.zipWith encV cs vs).flatten
theorem width_is (c : Nat) (hc : Letter c) (w : World) : Calls Tryd.prog 50 #[.int .u8 c] w fun e w' => e = .returned (.int .i64 (widthOf c : Nat)) ∧ w = w' := by
  rcases hc with rfl | rfl | rfl | rfl | rfl
  · exact width_a w
  · exact width_b w
  · exact width_c w
  · exact width_d w
  · exact width_t w

theorem encAll_next (cs : List Nat) (vs : List CV) (j c : Nat) (x : CV) (hc : cs[j]? = some c) (hx : vs[j]? = some x) : encAll (cs.take (j + 1)) (vs.take (j + 1)) = encAll (cs.take j) (vs.take j) ++ encV c x := by
  unfold encAll
  induction j generalizing cs vs with
  | zero =>
    cases cs with
    | nil => simp at hc
    | cons a r =>
      cases vs with
      | nil => simp at hx
      | cons b q => simp at hc hx; subst hc hx; simp
  | succ j ih =>
    cases cs with
    | nil => simp at hc
    | cons a r =>
      cases vs with
      | nil => simp at hx
      | cons b q =>
        simp only [List.getElem?_cons_succ] at hc hx
        simp only [List.take_succ_cons, List.zipWith_cons_cons, List.flatten_cons, List.append_assoc]
        rw [ih r q hc hx]
theorem encAll_take_le (cs : List Nat) (vs : List CV) (j : Nat) : (encAll (cs.take j) (vs.take j)).length ≤ (encAll cs vs).length := by
  unfold encAll
  induction j generalizing cs vs with
  | zero => simp
  | succ j ih =>
    cases cs with
    | nil => simp
    | cons a r =>
      cases vs with
      | nil => simp
      | cons b q =>
        simp only [List.take_succ_cons, List.zipWith_cons_cons, List.flatten_cons, List.length_append]
        have := ih r q
        omega

set_option maxHeartbeats 1000000 in
theorem encode_is (cs : List Nat) (s : ByteArray) (vs : List CV) (a : Option Addr) (n cap : Nat) (w : World) (hs : s.size ≤ 100) (ht : Lib.trimS s.data.toList [97, 98, 99, 100, 116] = []) (hcs : s.data.toList.map (fun b => b.toNat) = cs) (hR : RV w a vs) (hn : vs.length = n) (hlen : cs.length = vs.length)
    (hfit : ∀ (j : Nat) c x, cs[j]? = some c → vs[j]? = some x → Fits c x) (hbig : (encAll cs vs).length ≤ 4000) :
    Calls Tryd.prog 27 #[.string s, .slice a n cap] w fun e w' => ∃ a' c', e = .returned (.tuple #[.slice a' (encAll cs vs).length c', .int .i64 0]) ∧ w'.ownsRow w.heap.size 5 1 (.slice a' (encAll cs vs).length c') (encAll cs vs).length (cellsOf encB (encAll cs vs)) ∧ Below w.heap.size w w' := by
  have hS := shaped_is s w hs ht
  have hsz : n = s.size := by
    rw [← hn, ← hlen, ← hcs, List.length_map, Array.length_toList]; rfl
  have hnm : n ≤ 100 := by omega
  have HR := Lib.hid hR
  clear hR
  subst hsz
  go_enter Tryd.func27, Tryd.ntmps27
  go_wp2_with (go_at_call 49; refine hS.mono ?_; rintro e w1 ⟨rfl, hB1⟩)
  clear hS
  go_loopw [6, 22] (fun bv ix wr => ∃ j : Nat, j ≤ s.size ∧ ix = .int .i64 j ∧ wr.ownsRow w.heap.size 5 1 bv (encAll (cs.take j) (vs.take j)).length (cellsOf encB (encAll (cs.take j) (vs.take j))) ∧ Below w.heap.size w wr) (fun _ ix _ => s.size - (RowKit.intOf ix).toNat)
  case atStart => exact ⟨0, by omega, rfl, World.ownsRow_nil _ _ _ _, hB1⟩
  case round =>
    obtain ⟨j, hj, rfl, hO, hB⟩ := hrel
    obtain ⟨a1, c1, rfl⟩ := bytes_slice hO
    by_cases hlt : j < s.size
    · obtain ⟨x, hx⟩ : ∃ x, vs[j]? = some x := ⟨_, List.getElem?_eq_getElem (by omega)⟩
      obtain ⟨b0, off, rfl, hc0, hc1⟩ := (HR.out.below hB).get hx
      have hji : (j : Int) < (s.size : Int) := by omega
      obtain ⟨c, hc⟩ : ∃ c, cs[j]? = some c := ⟨_, List.getElem?_eq_getElem (by omega)⟩
      have hF := hfit j c x hc hx
      have hcj : s[j].toNat = c := by
        rw [← hcs, List.getElem?_map] at hc
        have e : s.data.toList[j]? = some s[j] := by
          rw [Array.getElem?_toList, Array.getElem?_eq_getElem hlt]; rfl
        rw [e] at hc
        simpa using hc
      have hj100 : (encAll (cs.take j) (vs.take j)).length ≤ 4000 := Nat.le_trans (encAll_take_le cs vs j) hbig
      obtain ⟨w2, hw2⟩ : ∃ w2, wr.alloc (.cells #[.int .u64 x.n, .string x.s] 83) = w2 := ⟨_, rfl⟩
      have hb2 : w2.heap[wr.heap.size]? = some (.cells #[.int .u64 x.n, .string x.s] 83 (0, 0)) := by rw [← hw2]; exact heap_alloc_new wr _
      have hB2 : Below wr.heap.size wr w2 := by rw [← hw2]; exact (Below.refl _ wr).alloc (Nat.le_refl _) _
      have v0 := blk_cell hb2 0
      have v1 := blk_cell hb2 1
      simp at v0 v1
      have hO2 := ownsRow_upd hO (Upd.of_below hB2 (fun _ => False)) (fun _ _ h => h)
      have hBw2 := hB.trans (hB2.mono hB.size)
      have HO := Lib.hid hO
      have HO2 := Lib.hid hO2
      have HV2 := Lib.hid hb2
      have HW2 := Lib.hid hw2
      have HC := Lib.hid hc
      have HX := Lib.hid hx
      have HWD := Lib.hid (width_is c hF.1 w2)
      clear hO hO2 hb2 hw2 hc hx
      go_upto_region 7 with fail
      rw [HW2.out]
      go_wp2_with fail
      refine HWD.out.mono ?_
      rintro e w3 ⟨rfl, rfl⟩
      by_cases h116 : c = 116
      · subst h116
        have hF2 := hF.2
        rw [if_pos rfl] at hF2
        obtain ⟨hxn, hxs⟩ := hF2
        have hxs' : ¬ (2000 : Int) < (x.s.size : Int) := by omega
        have hw0 : widthOf 116 = 0 := rfl
        rw [hw0]
        have hbox : ∀ q, (Value.slice a1 (encAll (cs.take j) (vs.take j)).length c1).ownBlock = some q → q ≠ wr.heap.size := fun q hq e => by
          have := (HO.out.lt q hq).2; omega
        have hBsz := hBw2.size
        have hws2 := hB.size
        obtain ⟨bs, hbs⟩ : ∃ bs, bs = encAll (cs.take j) (vs.take j) := ⟨_, rfl⟩
        rw [← hbs] at hbox HO2 HO hj100 ⊢
        have HBS := Lib.hid hbs
        clear hbs
        have hwr : IntKind.u64.wrap (x.s.size : Int) = (x.s.size : Int) := by rw [IntKind.wrap_u64]; omega
        have HD : Hid (∀ w', Upd (fun _ => False) w2 w' → Calls Tryd.prog 51 #[.slice a1 bs.length c1, .int .u64 x.s.size, .int .i64 2] w' fun e w4 => ∃ v', e = .returned v' ∧ w4.ownsRow w.heap.size 5 1 v' (bs.length + 2) (cellsOf encB (bs ++ be 2 x.s.size)) ∧ Below w.heap.size w w4 ∧ w4.cell? ⟨wr.heap.size, 1, none⟩ = some (.string x.s) ∧ v'.ownBlock ≠ some wr.heap.size) := by
          intro w' hu
          refine (number_is w.heap.size _ _ x.s.size 2 w' (ownsRow_upd HO2.out hu (fun _ _ h => h)) (Nat.le_trans hBsz hu.size) (by omega) (by decide) (by omega)).mono ?_
          rintro e w4 ⟨v', rfl, h1, h2, h3⟩
          have hb4 : w4.heap[wr.heap.size]? = some (.cells #[.int .u64 x.n, .string x.s] 83 (0, 0)) := h2.heap (hu.heap HV2.out (fun h => h)) (fun e => hbox _ e rfl)
          refine ⟨v', rfl, ?_, ?_, ?_, ?_⟩
          · have e : (bs ++ be 2 x.s.size).length = bs.length + 2 := by simp [be]
            rw [e] at h1; exact h1
          · refine (hu.onto hBw2 hBw2.size (fun _ h => h.elim)).trans (h2.below (Nat.le_trans hBsz hu.size) (fun q hq e => ?_))
            have := (HO2.out.lt q e).1; omega
          · have := blk_cell hb4 1; simpa using this
          · rcases h3 with e | ⟨g, e, hg⟩
            · intro h; rw [e] at h; exact hbox _ h rfl
            · intro h; rw [e] at h; cases h
              have := lt_of_heap HV2.out
              have := hu.size; omega
        obtain ⟨i0, hi0, hz0, hz1, hz2⟩ := info_parts Tryd.infoB
        go_upto_region 14 with fail
        go_region_held3 (fun w' => w'.cell? ⟨wr.heap.size, 1, none⟩ = some (.string x.s))
          (first | (simp [*]; done) | go_keep)
          (first
            | (go_at_call 51; refine (HD.out _ ((Upd.refl _ _).drew)).mono ?_; rintro e w4 ⟨v4, rfl, hO4, hB4, hs4, hn4⟩; have HO4 := Lib.hid hO4; have HB4 := Lib.hid hB4; have HN4 := Lib.hid hn4; clear hO4 hB4 hn4)
            | (refine step_append_str rfl _ _ 28 9 rfl w.heap.size 5 i0 Tryd.underlying28 Tryd.underlying9 hi0 hz0 hz1 hz2 _ _ _ rfl (HO4.out) x.s rfl (by unfold maxLen; omega) (by omega) HB4.out.size ?_; intro v5 w5 hown5 hgrow5; have hs5 : w5.cell? ⟨wr.heap.size, 1, none⟩ = some (.string x.s) := (by have e5 := hgrow5.block wr.heap.size (World.block_lt_of_cell? _ _ (by assumption : w4.cell? ⟨wr.heap.size, 1, none⟩ = some (.string x.s))) (fun e => HN4.out e.symm); exact (cell_block' (p := ⟨wr.heap.size, 1, none⟩) e5).trans (by assumption)); have HO5 := Lib.hid hown5; have HG5 := Lib.hid hgrow5; clear hown5 hgrow5))
        have hnext : encAll (cs.take (j + 1)) (vs.take (j + 1)) = bs ++ (be 2 x.s.size ++ strB x.s) := by rw [encAll_next cs vs j 116 x HC.out HX.out, HBS.out]; rfl
        have hO5 := HO5.out
        rw [strCells_eq, ← cellsOf_append, List.append_assoc] at hO5
        have hl5 : bs.length + 2 + x.s.size = (bs ++ (be 2 x.s.size ++ strB x.s)).length := by simp [be, strB_len]; omega
        rw [hl5, ← hnext] at hO5
        have hB5 : Below w.heap.size w w5 := HB4.out.grown HG5.out HB4.out.size (fun q hq => (HO4.out.lt q hq).1)
        have HO6 := Lib.hid hO5
        clear hO5 hs4 hs5 hl5 hnext
        go_wp2_with fail
        go_roundw
        case rel => exact ⟨j + 1, by omega, by go_num, HO6.out, hB5⟩
        case measure => simp [RowKit.intOf]; omega
      · have hF2 := hF.2
        rw [if_neg h116] at hF2
        obtain ⟨hxs, hxn⟩ := hF2
        obtain ⟨bs, hbs⟩ : ∃ bs, bs = encAll (cs.take j) (vs.take j) := ⟨_, rfl⟩
        have hwd : 1 ≤ widthOf c ∧ widthOf c ≤ 8 := by rcases hF.1 with rfl | rfl | rfl | rfl | rfl <;> first | decide | exact absurd rfl h116
        have hbox : ∀ q, (Value.slice a1 (encAll (cs.take j) (vs.take j)).length c1).ownBlock = some q → q ≠ wr.heap.size := fun q hq e => by
          have := (HO.out.lt q hq).2; omega
        have hx64 : x.n < 18446744073709551616 := Nat.lt_of_lt_of_le hxn (by rcases hF.1 with rfl | rfl | rfl | rfl | rfl <;> first | decide | exact absurd rfl h116)
        rw [← hbs] at hbox HO2 HO hj100 ⊢
        have HBS := Lib.hid hbs
        clear hbs
        have HD := Lib.hid (number_is w.heap.size _ _ x.n (widthOf c) w2 HO2.out hBw2.size hx64 hwd (by omega))
        have hw1 : ((widthOf c : Nat) : Int) ≠ 0 := by omega
        have hw1b : (((widthOf c : Nat) : Int) == 0) = false := by simpa using hw1
        have hwp : (0 : Int) < ((widthOf c : Nat) : Int) := by omega
        rw [hxs] at v1
        by_cases hw8 : ((widthOf c : Nat) : Int) < 8
        · have hsh : (x.n : Int) / 2 ^ (8 * widthOf c) = 0 := by
            have e : (256 : Nat) ^ widthOf c = 2 ^ (8 * widthOf c) := by rw [Nat.pow_mul]
            rw [e] at hxn
            have := Nat.div_eq_of_lt hxn
            exact_mod_cast this
          go_wp2_with fail
          refine HD.out.mono ?_
          rintro e w4 ⟨v4, rfl, h1, h2, h3⟩
          have hO4 : w4.ownsRow w.heap.size 5 1 v4 (encAll (cs.take (j + 1)) (vs.take (j + 1))).length (cellsOf encB (encAll (cs.take (j + 1)) (vs.take (j + 1)))) := by
            have e : encAll (cs.take (j + 1)) (vs.take (j + 1)) = bs ++ be (widthOf c) x.n := by rw [encAll_next cs vs j c x HC.out HX.out, HBS.out, encV, if_neg h116]
            rw [e]; exact h1
          have hB4 : Below w.heap.size w w4 := hBw2.trans (h2.below hBw2.size (fun q hq e => by have := (HO2.out.lt q e).1; omega))
          have HO4 := Lib.hid hO4
          clear h1 h2 h3 hO4
          go_wp2_with fail
          go_roundw
          case rel => exact ⟨j + 1, by omega, by go_num, HO4.out, hB4⟩
          case measure => simp [RowKit.intOf]; omega
        · go_wp2_with fail
          refine HD.out.mono ?_
          rintro e w4 ⟨v4, rfl, h1, h2, h3⟩
          have hO4 : w4.ownsRow w.heap.size 5 1 v4 (encAll (cs.take (j + 1)) (vs.take (j + 1))).length (cellsOf encB (encAll (cs.take (j + 1)) (vs.take (j + 1)))) := by
            have e : encAll (cs.take (j + 1)) (vs.take (j + 1)) = bs ++ be (widthOf c) x.n := by rw [encAll_next cs vs j c x HC.out HX.out, HBS.out, encV, if_neg h116]
            rw [e]; exact h1
          have hB4 : Below w.heap.size w w4 := hBw2.trans (h2.below hBw2.size (fun q hq e => by have := (HO2.out.lt q e).1; omega))
          have HO4 := Lib.hid hO4
          clear h1 h2 h3 hO4
          go_wp2_with fail
          go_roundw
          case rel => exact ⟨j + 1, by omega, by go_num, HO4.out, hB4⟩
          case measure => simp [RowKit.intOf]; omega
    · obtain rfl : j = s.size := by omega
      rw [List.take_of_length_le (by omega), List.take_of_length_le (by omega)] at hO ⊢
      have hbi : ¬ (4000 : Int) < (((encAll cs vs).length : Nat) : Int) := by omega
      have HO := Lib.hid hO
      clear hO
      go_wp2_with fail
      go_ret2
      exact ⟨a1, c1, rfl, HO.out, hB⟩

end Go.Proofs.YtehgbpepaakanaaDoor
