/-
  WholeTalk: the walk.
-/
import Derived.Test.YtehgbpepaakanaaDoorTk
import Derived.Deep.LoopGhost
import Derived.Deep.CutRange
import Derived.Deep.CutBlock
namespace Go.Proofs.YtehgbpepaakanaaDoor
open Go.RowKit
set_option linter.unusedVariables false
set_option linter.unusedSimpArgs false
set_option maxRecDepth 20000

attribute [local go_sem] Oper.semAt_some

/-- Texts that can be read. -/
def TR (w : World) (a : Option Addr) (ls : List ByteArray) : Prop := ls = [] ∨ ∃ b off, a = some ⟨b, off, none⟩ ∧ b < w.heap.size ∧ ∀ (j : Nat) (x : ByteArray), ls[j]? = some x → w.cell? ⟨b, off + j, none⟩ = some (.string x)
theorem TR.get {w w' : World} {a : Option Addr} {ls : List ByteArray} (h : TR w a ls) (hb : Below w.heap.size w w') {j : Nat} {x : ByteArray} (hx : ls[j]? = some x) : ∃ b off, a = some ⟨b, off, none⟩ ∧ b < w.heap.size ∧ w'.cell? ⟨b, off + j, none⟩ = some (.string x) := by
  rcases h with rfl | ⟨b, off, rfl, hlt, hc⟩
  · simp at hx
  · exact ⟨b, off, rfl, hlt, (hb.cell (p := ⟨b, off + j, none⟩) hlt).trans (hc j x hx)⟩

theorem syn_start {W0 w2 w3 : World} {A : Nat} (hA : AirHi (fun k => k < W0.heap.size) w2 A 1000 (fun _ => [])) (hB : Below W0.heap.size W0 w2)
    (hw : w3 = (((w2.alloc (.cells #[.pointer (some ⟨A, 0, none⟩)] 32)).alloc (.cells #[.int .i64 0, .slice none 0 0, .int .i64 100] 48)).alloc (.cells #[.int .i64 0] 50)).alloc (.cells #[.slice none 0 0] 45)) :
    SyN (fun k => k < W0.heap.size ∨ (w2.heap.size ≤ k ∧ k < w3.heap.size)) w2.heap.size A W0 w3 [] 0 (.slice none 0 0) [] 0 (.slice none 0 0) [] (.slice none 0 0) [] := by
  have hU : Upd (fun _ => False) w2 w3 := by rw [hw]; exact ((((Upd.refl _ w2).alloc _).alloc _).alloc _).alloc _
  have hz : w3.heap.size = w2.heap.size + 4 := by rw [hw]; simp
  have hnil : ∀ k, (Value.slice none 0 0).ownBlock = some k → False := fun k h => by simp [Value.ownBlock] at h
  have e1 := heap_alloc_new (w2.alloc (.cells #[.pointer (some ⟨A, 0, none⟩)] 32)) (.cells #[.int .i64 0, .slice none 0 0, .int .i64 100] 48)
  have e2 := heap_alloc_new ((w2.alloc (.cells #[.pointer (some ⟨A, 0, none⟩)] 32)).alloc (.cells #[.int .i64 0, .slice none 0 0, .int .i64 100] 48)) (.cells #[.int .i64 0] 50)
  have e3 := heap_alloc_new (((w2.alloc (.cells #[.pointer (some ⟨A, 0, none⟩)] 32)).alloc (.cells #[.int .i64 0, .slice none 0 0, .int .i64 100] 48)).alloc (.cells #[.int .i64 0] 50)) (.cells #[.slice none 0 0] 45)
  simp only [World.size_alloc] at e1 e2 e3
  exact {
    air := (show Air3 _ w2 A [] from ⟨_, hA, rfl⟩).out (hU.mono (fun _ _ h => h.elim))
    low := fun k hk => .inl hk
    n0 := .inr ⟨Nat.le_refl _, by omega⟩
    n1 := .inr ⟨by omega, by omega⟩
    n2 := .inr ⟨by omega, by omega⟩
    n3 := .inr ⟨by omega, by omega⟩
    pb := by rw [hw]; exact blk_alloc (blk_alloc (blk_alloc (heap_alloc_new w2 _) _) _) _
    ob := by rw [hw]; exact blk_alloc (blk_alloc e1 _) _
    ps := World.ownsRow_nil _ _ _ _
    nw := fun k h => (hnil k h).elim
    ib := by rw [hw]; exact blk_alloc e2 _
    tb := by rw [hw]; exact e3
    ss := World.ownsRow_nil _ _ _ _
    nt := fun k h => (hnil k h).elim
    sd := World.ownsRow_nil _ _ _ _
    ns := fun k h => (hnil k h).elim
    sep := fun k h => (hnil k h).elim
    bel := hB.trans (hU.below hB.size (fun _ _ h => h))
    hi := hB.size
    ht := fun k h => (hnil k h).elim
    hs := fun k h => (hnil k h).elim }

theorem send_u {N : Nat → Prop} {w : World} {A BA : Nat} {L : List Lt} (p : Pk) (h : Air3 N w A L) (hP : PB w BA A) (hNA : N BA) (h0 : 0 ≤ p.q) (h1 : p.q < 256) (hs : p.s.size ≤ 500) (hn : L.length < 1000) :
    Calls Tryd.prog 16 #[.agg #[.int .i64 p.q, .string p.s], .pointer (some ⟨BA, 0, none⟩)] w fun e w' => e = .returned (.tuple #[]) ∧ Air3 N w' A (L ++ [ltOf p]) ∧ Kept N w w' := by
  obtain ⟨st, h, rfl⟩ := h
  refine (send16 N A BA st p w h hP hNA h0 h1 hs (by omega)).mono ?_
  rintro e w' ⟨rfl, hA, hK⟩
  exact ⟨rfl, ⟨_, hA, upd_same _ _ _⟩, hK⟩

/-- The loop over the texts: what holds when so many rounds are to come. -/
def Sends (n A lm : Nat) (W0 : World) (k : Nat) (sv0 ix : Value) (wr : World) : Prop :=
  ∃ (j m : Nat) (N : Nat → Prop) (aw : Option Addr) (dw : Nat) (said : List ByteArray) (sv : Value), sv = sv0 ∧ j ≤ lm ∧ k = lm - j ∧ ix = .int .i64 j ∧ said.length = m ∧ m ≤ j ∧ (∀ s ∈ said, s.size ≤ 100) ∧
    SyN N n A W0 wr ((pks 0 said).map ltOf) m (.slice aw m dw) (pks 0 said) 0 (.slice none 0 0) [] sv said

theorem SS.get {w : World} {a : Option Addr} {n d : Nat} {ss : List ByteArray} (h : SS w (.slice a n d) ss) {j : Nat} {x : ByteArray} (hx : ss[j]? = some x) : ∃ g, a = some ⟨g, 0, none⟩ ∧ w.cell? ⟨g, j, none⟩ = some (.string x) := by
  have hj : j < ss.length := (List.getElem?_eq_some_iff.1 hx).1
  rcases h.2 with ⟨h0, h1⟩ | ⟨g, cap, cur, hv, hb, hcur, hnc, hcm, hsz, htake⟩
  · omega
  · simp only [Value.slice.injEq] at hv
    obtain ⟨rfl, rfl, rfl⟩ := hv
    refine ⟨g, rfl, ?_⟩
    have := cellsOf_at encS 1 encS_len ss j 0 x hx (by omega)
    rw [blk_cell hcur]
    rw [← htake, List.getElem?_take, if_pos (by omega)] at this
    simpa [encS] using this

/-- A letter that bears a packet of what was said is heard. -/
theorem hear_u {N : Nat → Prop} {n A : Nat} {W0 w : World} {L : List Lt} {nx : Int} {wv : Value} {wait : List Pk} {hN m : Nat} {tv : Value} {sv : Value} {said : List ByteArray} (hS : SyN N n A W0 w L nx wv wait hN tv (said.take hN) sv said) (hsm : said.length = m) (hm60 : m ≤ 60) (hNm : hN ≤ m)
    (hsz : ∀ s ∈ said, s.size ≤ 100) (p : Pk) (hp : p ∈ pks 0 said) (f t : Int) (a : Option Addr) (mm d : Nat) (hR : BR w a mm d (ltOf p).bs) :
    Calls Tryd.prog 14 #[.agg #[.int .u8 f, .int .u8 t, .slice a mm d], .pointer (some ⟨n + 2, 0, none⟩), .pointer (some ⟨n + 3, 0, none⟩)] w fun e w' => e = .returned (.tuple #[]) ∧
      ∃ (hN' : Nat) (tv' : Value), hN' ≤ m ∧ (p.q = (hN : Int) → hN' = hN + 1) ∧ SyN (More N w w') n A W0 w' L nx wv wait hN' tv' (said.take hN') sv said := by
  obtain ⟨j, hq, hj⟩ := pks_mem hp
  have hjm : j < said.length := (List.getElem?_eq_some_iff.1 hj).1
  have hs := hsz _ (List.mem_of_getElem? hj)
  refine (hear14 (n + 2) (n + 3) f t hN p.q a mm d p.s tv (said.take hN) w hR hS.ib hS.tb hS.ss (by omega) (by omega) (by omega) (by omega) (by omega) (by rw [List.length_take]; omega)).mono ?_
  rintro e w' ⟨rfl, h', tv', told', hc, hI, hT, hS', hat, hU⟩
  refine ⟨rfl, ?_⟩
  rcases hc with ⟨h1, rfl, rfl⟩ | ⟨h1, rfl, rfl⟩
  · have hjN : j = hN := by omega
    subst hjN
    refine ⟨j + 1, tv', by omega, fun _ => rfl, ?_⟩
    have e1 : said.take (j + 1) = said.take j ++ [p.s] := by rw [List.take_add_one, hj]; rfl
    have e2 : ((j + 1 : Nat) : Int) = (j : Int) + 1 := by omega
    rw [e1, e2]
    exact hS.heard hI hT hS' hat hU
  · exact ⟨hN, tv', hNm, fun h => absurd h h1, hS.heard hI hT hS' hat hU⟩

theorem pks_cons (f : Nat) (s : ByteArray) (r : List ByteArray) : pks f (s :: r) = ⟨(f : Int), s⟩ :: pks (f + 1) r := by simp [pks, List.zipIdx_cons]
theorem pks_next {ss : List ByteArray} {c : Nat} {x : ByteArray} (hx : ss[c]? = some x) : pks c (ss.drop c) = ⟨(c : Int), x⟩ :: pks (c + 1) (ss.drop (c + 1)) := by
  obtain ⟨h, rfl⟩ := List.getElem?_eq_some_iff.1 hx
  rw [List.drop_eq_getElem_cons h, pks_cons]

/-- While acts go on: what was told are the first hN of what was said; each letter bears a packet of what was said; no more letters than lim. -/
def AM (n A m : Nat) (W0 : World) (aw : Option Addr) (dw : Nat) (sv : Value) (said : List ByteArray) (lim : Nat) (wr : World) : Prop :=
  ∃ (hN : Nat) (N : Nat → Prop) (L : List Lt) (tv : Value), hN ≤ m ∧ L.length ≤ lim ∧ (∀ x ∈ L, ∃ p ∈ pks 0 said, x = ltOf p) ∧
    SyN N n A W0 wr L m (.slice aw m dw) (pks 0 said) hN tv (said.take hN) sv said
/-- The loop over the acts. -/
def Acts (n A am m : Nat) (W0 : World) (aw : Option Addr) (dw : Nat) (sv : Value) (said : List ByteArray) (k : Nat) (ix : Value) (wr : World) : Prop :=
  ∃ i : Nat, i ≤ am ∧ k = am - i ∧ ix = .int .i64 i ∧ AM n A m W0 aw dw sv said (60 + i) wr

set_option maxHeartbeats 4000000 in
theorem talk_walk (la aa : Option Addr) (lm ld am ad : Nat) (ls : List ByteArray) (zs : List Int) (W0 : World) (hl : TR W0 la ls) (hll : ls.length = lm) (hlm : (lm : Int) ≤ 9223372036854775807) (hz : Ints .u8 W0.heap.size W0 aa zs) (hzl : zs.length = am) (hzm : (am : Int) ≤ 9223372036854775807) (hzu : ∀ z ∈ zs, 0 ≤ z ∧ z ≤ 255) :
    Calls Tryd.prog 4 #[.slice la lm ld, .slice aa am ad] W0 fun e w' => e = .returned (.bool true) ∧ Below W0.heap.size W0 w' := by
  obtain ⟨i0, hi0, hz0, hz1, hz2⟩ := info_parts Tryd.infoStr
  have HL := Lib.hid hl
  have HLL := Lib.hid hll
  have HZ := Lib.hid hz
  have HZL := Lib.hid hzl
  have HZU := Lib.hid hzu
  clear hl hll hz hzl hzu
  by_cases hbig : 60 < lm ∨ 300 < am
  · have hd1 : (decide ((60 : Int) < (lm : Int)) || decide ((300 : Int) < (am : Int))) = true := by
      simp only [Bool.or_eq_true, decide_eq_true_eq]; omega
    rcases hbig with h | h
    · have h' : (60 : Int) < (lm : Int) := by omega
      go_enter Tryd.func4, Tryd.ntmps4
      go_wp2_with (go_at_call 5; refine (works_is _).mono ?_; rintro e w1 ⟨rfl, hB1⟩)
      go_ret
      exact ⟨rfl, hB1⟩
    · have h' : (300 : Int) < (am : Int) := by omega
      by_cases h60 : 60 < lm
      · have h60' : (60 : Int) < (lm : Int) := by omega
        go_enter Tryd.func4, Tryd.ntmps4
        go_wp2_with (go_at_call 5; refine (works_is _).mono ?_; rintro e w1 ⟨rfl, hB1⟩)
        go_ret
        exact ⟨rfl, hB1⟩
      · have h60' : ¬ (60 : Int) < (lm : Int) := by omega
        go_enter Tryd.func4, Tryd.ntmps4
        go_wp2_with (go_at_call 5; refine (works_is _).mono ?_; rintro e w1 ⟨rfl, hB1⟩)
        go_ret
        exact ⟨rfl, hB1⟩
  · have hlm60 : lm ≤ 60 := by omega
    have ham : am ≤ 300 := by omega
    have h60' : ¬ (60 : Int) < (lm : Int) := by omega
    have h300' : ¬ (300 : Int) < (am : Int) := by omega
    have hd1 : decide ((60 : Int) < (lm : Int)) = false := decide_eq_false h60'
    have hd2 : decide ((300 : Int) < (am : Int)) = false := decide_eq_false h300'
    go_enter Tryd.func4, Tryd.ntmps4
    go_wp2_with fail
    refine (works_is _).mono ?_
    rintro e w1 ⟨rfl, hB1⟩
    go_wp2_with fail
    refine (new_hi 1000 w1 (by decide) (by decide)).mono ?_
    rintro e w2 ⟨A, rfl, hA, hB2⟩
    have hB02 := hB1.trans (hB2.mono hB1.size)
    have hA2 := hA.less (N' := fun k => k < W0.heap.size) (fun k hk => Nat.lt_of_lt_of_le hk hB1.size)
    obtain ⟨w3, hw3⟩ : ∃ w3, w3 = (((w2.alloc (.cells #[.pointer (some ⟨A, 0, none⟩)] 32)).alloc (.cells #[.int .i64 0, .slice none 0 0, .int .i64 100] 48)).alloc (.cells #[.int .i64 0] 50)).alloc (.cells #[.slice none 0 0] 45) := ⟨_, rfl⟩
    have HS := Lib.hid (syn_start hA2 hB02 hw3)
    obtain ⟨n, hn⟩ : ∃ n, n = w2.heap.size := ⟨_, rfl⟩
    rw [← hn] at HS
    have HW3 := Lib.hid hw3
    have HN := Lib.hid hn
    clear hB1 hA hB2 hB02 hA2 hw3 hn
    go_upto_region 10 with fail
    rw [← HW3.out, ← HN.out]
    simp only [Nat.add_assoc, Nat.reduceAdd]
    clear HW3 HN
    go_wp2_with fail
    go_loopg [8, 51] lm (fun k sv ix wr => Sends n A lm W0 k sv ix wr)
    case atStart => exact ⟨0, 0, _, none, 0, [], _, rfl, by omega, by omega, rfl, rfl, by omega, fun s h => (by simp at h), HS.out⟩
    case round =>
      obtain ⟨j, m, N, aw, dw, said, sv, rfl, hj, rfl, rfl, hsm, hmj, hsz, hS⟩ := hrel
      by_cases hjl : j < lm
      · obtain ⟨x, hx⟩ : ∃ x, ls[j]? = some x := ⟨_, List.getElem?_eq_getElem (by rw [HLL.out]; exact hjl)⟩
        obtain ⟨lb, lo, rfl, -, hcx⟩ := HL.out.get hS.bel hx
        have hji : (j : Int) < (lm : Int) := by omega
        by_cases h100 : x.size ≤ 100
        · have h100' : ¬ (100 : Int) < (x.size : Int) := by omega
          have hop := hS.ob
          obtain ⟨p0, p1, p2, q0, q1, q2⟩ := hS.ob.cells
          have HY := Lib.hid hS
          have HSM := Lib.hid hsm
          have HSZ := Lib.hid hsz
          have HSay := Lib.hid (say17 m aw m dw (pks 0 said) 100 x wr hS.ps.read (by rw [Int.sub_self]; exact pks_consec (fun s h => by have := hsz s h; omega)) (by decide) (by decide) (by omega) (by omega) (by omega) (by omega))
          clear hS hx hop hsm hsz
          go_wp2_with fail
          refine HSay.out.mono ?_
          rintro e w4 ⟨a4, d4, rfl, hP4, hf4, hB4⟩
          obtain ⟨w5, hw5⟩ : ∃ w5, w5 = (w4.alloc (.cells #[.int .i64 ((m : Int) + 1), .slice a4 (m + 1) d4, .int .i64 100] 48)).alloc (.cells #[.int .i64 m, .string x] 54) := ⟨_, rfl⟩
          have hB45 : Below w4.heap.size w4 w5 := by rw [hw5]; exact ((Below.refl _ w4).alloc (Nat.le_refl _) _).alloc (by simp) _
          have hB5 : Below wr.heap.size wr w5 := hB4.trans (hB45.mono hB4.size)
          have hS5 := HY.out.fresh hB5
          have hP5 : PS w5 (.slice a4 (m + 1) d4) (pks 0 said ++ [⟨m, x⟩]) := hP4.upd (Upd.of_below hB45 (fun _ => False)) (fun _ _ h => h)
          have hz5 : w5.heap.size = w4.heap.size + 2 := by rw [hw5]; simp
          have ho5 : OB w5 w4.heap.size ((m : Int) + 1) (.slice a4 (m + 1) d4) 100 := by rw [hw5]; exact blk_alloc (heap_alloc_new w4 _) _
          have hk5 : KB w5 (w4.heap.size + 1) m x := by
            rw [hw5]
            have := heap_alloc_new (w4.alloc (.cells #[.int .i64 ((m : Int) + 1), .slice a4 (m + 1) d4, .int .i64 100] 48)) (.cells #[.int .i64 m, .string x] 54)
            rwa [World.size_alloc] at this
          obtain ⟨w6, hw6⟩ : ∃ w6, w6 = ((w5.setCell ⟨n + 1, 0, none⟩ (.int .i64 ((m : Int) + 1))).setCell ⟨n + 1, 1, none⟩ (.slice a4 (m + 1) d4)).setCell ⟨n + 1, 2, none⟩ (.int .i64 100) := ⟨_, rfl⟩
          have hz6 : w6.heap.size = w5.heap.size := by rw [hw6]; simp [World.setCell]
          have hS6 := hS5.setO (nx' := (m : Int) + 1) hP5 (fun k hk => .inr ⟨hf4 k hk, hP5.lt k hk⟩) hw6
          have hnlt := lt_of_heap HY.out.ob
          have hz4 := hB4.size
          have hU6 : Upd (fun k => k = n + 1) w5 w6 := by rw [hw6]; exact (((Upd.refl (fun k => k = n + 1) w5).setCell ⟨n + 1, 0, none⟩ _ (fun _ => rfl)).setCell ⟨n + 1, 1, none⟩ _ (fun _ => rfl)).setCell ⟨n + 1, 2, none⟩ _ (fun _ => rfl)
          have hk6 : KB w6 (w4.heap.size + 1) m x := hU6.heap hk5 (by omega)
          have hsl := fun k => HY.out.sd.lt k
          obtain ⟨p0', p1', p2', q0', q1', q2'⟩ := hS5.ob.cells
          obtain ⟨r0, r1, r2, -⟩ := ho5.cells
          obtain ⟨k0, k1, -⟩ := hk5.cells
          have HW5 := Lib.hid hw5
          have HW6 := Lib.hid hw6
          have HS6 := Lib.hid hS6
          have HK6 := Lib.hid hk6
          have HSL := Lib.hid hsl
          have HZ5 := Lib.hid hz5
          have HZ6 := Lib.hid hz6
          clear hz5 hz6
          clear hP4 hf4 hB4 hw5 hB45 hB5 hS5 hP5 ho5 hk5 hw6 hS6 hU6 hk6 hsl p0 p1 p2 q0 q1 q2
          go_upto_region 17 with fail
          rw [← HW5.out]
          go_upto_region 18 with fail
          rw [← HW6.out]
          clear p0' p1' p2' q0' q1' q2' r0 r1 r2 k0 k1
          have HR8 : Hid ((w6.alloc (.cells #[.string x] 9)).ownsRow 0 9 1 sv said.length (cellsOf encS said)) := HS6.out.sd.upd ((Upd.refl (fun _ => False) w6).alloc _) (fun _ _ h => h)
          have hsm60 : said.length ≤ 60 := by have := HSM.out; omega
          go_wp2_with (at_builtin; refine wpList_append_own_at _ rfl _ _ 45 rfl 0 9 i0 (.string ⟨#[]⟩) 1 16 Tryd.underlying45 hi0 hz0 hz1 hz2 rfl (by decide) _ _ _ rfl HR8.out ⟨w6.heap.size, 0, none⟩ 1 1 [.string x] rfl ?qa1 ?qa2 ?qa3 ?qa4 ?qa5 ?qa6 ?_)
          all_goals first
            | (unfold maxLen; omega)
            | omega
            | (simp [Value.oneCell']; done)
            | exact cell_one_new _ _ _
            | skip
          intro v7 w7 hown7 hgrow7 hnil7 hat7
          have hU7 : Upd (fun k => sv.ownBlock = some k) w6 w7 := ((Upd.refl (fun k => sv.ownBlock = some k) w6).alloc _).trans (Upd.of_grown hgrow7) (fun _ _ h => h)
          have hs7 : SS w7 v7 (said ++ [x]) := by rw [SS, List.length_append, cellsOf_append, cellsOf_one]; exact hown7
          have hx7 : ∀ k, v7.ownBlock = some k → sv.ownBlock = some k ∨ w6.heap.size ≤ k := by
            intro k hk
            rcases hat7 with e | e
            · exact .inl (e ▸ hk)
            · rw [e] at hk
              cases hk
              right
              have e1 := World.size_alloc w6 (.cells #[.string x] 9)
              omega
          have hS7 := HS6.out.saidMore hU7 hs7 hx7
          have hk7 : KB w7 (w4.heap.size + 1) m x := hU7.heap HK6.out (fun e => by have := HSL.out _ e; have := HZ5.out; omega)
          obtain ⟨k0, k1, -⟩ := hk7.cells
          have HSend := Lib.hid (send_u ⟨(m : Int), x⟩ hS7.air hS7.pb hS7.n0 (by show (0 : Int) ≤ m; omega) (by show (m : Int) < 256; omega) (by show x.size ≤ 500; omega) (by rw [List.length_map, pks_len, HSM.out]; omega))
          have HS7 := Lib.hid hS7
          clear hown7 hgrow7 hnil7 hat7 hU7 hs7 hx7 hS7 hk7
          go_wp2_with fail
          refine HSend.out.mono ?_
          rintro e w8 ⟨rfl, hA8, hK8⟩
          have hS8 := HS7.out.air_step hA8 hK8
          have HS8 := Lib.hid hS8
          clear hA8 hK8 hS8 k0 k1
          go_wp2_with fail
          go_roundg (lm - (j + 1))
          case measure => omega
          case rel =>
            have h := HS8.out
            have e : pks 0 said ++ [⟨(m : Int), x⟩] = pks 0 (said ++ [x]) := by rw [pks_snoc, HSM.out]
            have e2 : (pks 0 said).map ltOf ++ [ltOf ⟨(m : Int), x⟩] = (pks 0 (said ++ [x])).map ltOf := by rw [← e, List.map_append]; rfl
            have e3 : (m : Int) + 1 = ((m + 1 : Nat) : Int) := by omega
            rw [e2, e, e3] at h
            exact ⟨j + 1, m + 1, _, a4, d4, said ++ [x], v7, rfl, by omega, rfl, by go_num, by rw [List.length_append, HSM.out]; rfl, by omega, fun s hs => (List.mem_append.1 hs).elim (HSZ.out s) (fun h => by simp at h; subst h; exact h100), h⟩
        · have h100' : (100 : Int) < (x.size : Int) := by omega
          have HY := Lib.hid hS
          have HSM := Lib.hid hsm
          have HSZ := Lib.hid hsz
          clear hS hx hsm hsz
          go_wp2_with fail
          go_roundg (lm - (j + 1))
          case measure => omega
          case rel => exact ⟨j + 1, m, N, aw, dw, said, sv, rfl, by omega, rfl, by go_num, HSM.out, by omega, HSZ.out, HY.out⟩
      · obtain rfl : j = lm := by omega
        have hm60 : m ≤ 60 := by omega
        obtain ⟨sa, sd, rfl⟩ := hS.sd.slice
        rw [hsm] at hS
        rw [hsm]
        have HY := Lib.hid hS
        have HSM := Lib.hid hsm
        have HSZ := Lib.hid hsz
        clear hS hsm hsz
        go_wp2_with fail
        go_loopg [78] am (fun k ix wr => Acts n A am m W0 aw dw (.slice sa m sd) said k ix wr)
        case atStart => exact ⟨0, by omega, by omega, rfl, 0, N, (pks 0 said).map ltOf, _, by omega, by rw [List.length_map, pks_len, HSM.out]; omega, fun x hx => by
          obtain ⟨p, hp, rfl⟩ := List.mem_map.1 hx
          exact ⟨p, hp, rfl⟩, by rw [List.take_zero]; exact HY.out⟩
        case round =>
          clear HY
          obtain ⟨i, hi, rfl, rfl, hN, N1, L, tv, hNm, hLl, hLm, hS⟩ := hrel
          by_cases hia : i < am
          · obtain ⟨z, hz⟩ : ∃ z, zs[i]? = some z := ⟨_, List.getElem?_eq_getElem (by rw [HZL.out]; exact hia)⟩
            obtain ⟨zb, zo, rfl, hcz⟩ := (HZ.out.below hS.bel).get hz
            have hzu := HZU.out z (List.mem_of_getElem? hz)
            have hii : (i : Int) < (am : Int) := by omega
            have HY := Lib.hid hS
            have pb0 := hS.pb.cell
            have HLen := Lib.hid (len_u hS.air)
            have HLm := Lib.hid hLm
            obtain ⟨t, ht⟩ : ∃ t : Nat, z / 4 % max (L.length : Int) 1 = t := Int.eq_ofNat_of_zero_le (Int.emod_nonneg _ (by omega))
            have HT := Lib.hid ht
            clear hS hz hLm ht
            go_upto_block 4 with (go_at_call 18; refine HLen.out.mono ?_; rintro e w4 ⟨rfl, rfl⟩)
            rw [HT.out]
            go_cut [20, 21] from 90 to 112 (fun p20 v21 wx => AM n A m W0 aw dw (.slice sa m sd) said (60 + (i + 1)) wx)
            case first =>
              rcases (show z % 4 = 0 ∨ z % 4 = 1 ∨ (z % 4 ≠ 0 ∧ z % 4 ≠ 1) by omega) with hz4 | hz4 | ⟨hz4, hz5⟩
              · have HAg := Lib.hid (again_u HY.out.air t (fun x hx => by
                  obtain ⟨p, hp, rfl⟩ := HLm.out x hx
                  obtain ⟨j, -, hj⟩ := pks_mem hp
                  have := HSZ.out _ (List.mem_of_getElem? hj)
                  show (p.q :: strB p.s).length ≤ 4000
                  rw [List.length_cons, strB_len]; omega) (by omega))
                go_wp2_with fail
                refine HAg.out.mono ?_
                rintro e w4 ⟨c, L', rfl, hA4, hsub, hlen, hK4⟩
                have HE := Lib.hid (show AM n A m W0 aw dw (.slice sa m sd) said (60 + (i + 1)) w4 from ⟨hN, N1, L', tv, hNm, by omega, fun x hx => HLm.out x (hsub x hx), HY.out.air_step hA4 hK4⟩)
                clear hA4 hsub hlen hK4
                go_wp2_with fail
                go_meet
                exact HE.out
              · have HTk := Lib.hid (take_u HY.out.air t)
                go_wp2_with fail
                refine HTk.out.mono ?_
                rintro e w4 ⟨lf, lt', la', lm', ld', c, L', rfl, hA4, hK4, hc⟩
                have hsub : (∀ x ∈ L', x ∈ L) ∧ L'.length ≤ L.length := by
                  rcases hc with ⟨-, x, -, -, rfl⟩ | ⟨-, -, rfl⟩
                  · exact ⟨fun x hx => List.mem_of_mem_eraseIdx hx, List.length_eraseIdx_le _ _⟩
                  · exact ⟨fun _ h => h, Nat.le_refl _⟩
                have HE := Lib.hid (show AM n A m W0 aw dw (.slice sa m sd) said (60 + (i + 1)) w4 from ⟨hN, N1, L', tv, hNm, by omega, fun x hx => HLm.out x (hsub.1 x hx), HY.out.air_step hA4 hK4⟩)
                clear hA4 hsub hc hK4
                go_wp2_with fail
                go_meet
                exact HE.out
              · have HTk := Lib.hid (take_u HY.out.air t)
                go_wp2_with fail
                refine HTk.out.mono ?_
                rintro e w4 ⟨lf, lt', la', lm', ld', c, L', rfl, hA4, hK4, hc⟩
                obtain ⟨w5, hw5⟩ : ∃ w5, w5 = w4.alloc (.cells #[.int .u8 lf, .int .u8 lt', .slice la' lm' ld'] 37) := ⟨_, rfl⟩
                have hB5 : Below w4.heap.size w4 w5 := by rw [hw5]; exact (Below.refl _ w4).alloc (Nat.le_refl _) _
                have hb5 : LB w5 w4.heap.size lf lt' (.slice la' lm' ld') := by rw [hw5]; exact heap_alloc_new w4 _
                have hS5 := (HY.out.air_step hA4 hK4).fresh hB5
                have HS5 := Lib.hid hS5
                have HW5 := Lib.hid hw5
                obtain ⟨b0, b1, b2⟩ := hb5.cells
                rcases hc with ⟨rfl, x, hx, hR, rfl⟩ | ⟨hc0, hx, rfl⟩
                · obtain ⟨p, hp, rfl⟩ := HLm.out x (List.mem_of_getElem? hx)
                  have HH := Lib.hid (hear_u hS5 HSM.out hm60 hNm HSZ.out p hp lf lt' la' lm' ld' (hR.below hB5))
                  have HX := Lib.hid hx
                  clear hA4 hK4 hw5 hB5 hb5 hS5 hR hx
                  go_upto_region 27 with fail
                  rw [← HW5.out]
                  go_wp2_with fail
                  refine HH.out.mono ?_
                  rintro e w6 ⟨rfl, hN', tv', hN'm, -, hS6⟩
                  have HE := Lib.hid (show AM n A m W0 aw dw (.slice sa m sd) said (60 + (i + 1)) w6 from ⟨hN', _, _, tv', hN'm, by have := List.length_eraseIdx_le L t; omega, fun x hx => HLm.out x (List.mem_of_mem_eraseIdx hx), hS6⟩)
                  clear hS6
                  go_wp2_with fail
                  go_meet
                  exact HE.out
                · have HE := Lib.hid (show AM n A m W0 aw dw (.slice sa m sd) said (60 + (i + 1)) w5 from ⟨hN, _, _, tv, hNm, by omega, HLm.out, hS5⟩)
                  clear hA4 hK4 hw5 hB5 hb5 hS5 hx
                  go_upto_region 27 with fail
                  rw [← HW5.out]
                  go_wp2_with fail
                  go_meet
                  exact HE.out
            case rest =>
              obtain ⟨hN', N', L', tv', hNm', hLl', hLm', hS'⟩ := hcut
              obtain ⟨ta, td, rfl⟩ := hS'.ss.slice
              have htl : (said.take hN').length = hN' := by rw [List.length_take, HSM.out]; omega
              rw [htl] at hS'
              obtain ⟨r0, -⟩ := hS'.tb.cell
              have HS' := Lib.hid hS'
              have HL' := Lib.hid hLm'
              clear hS' hLm' htl HY HLen HLm HT
              go_wp2_with fail
              go_loopg [114] hN' (fun k ix wr => ∃ q : Nat, q ≤ hN' ∧ k = hN' - q ∧ ix = .int .i64 q ∧ wr = wc)
              case atStart => exact ⟨0, by omega, by omega, rfl, rfl⟩
              case round =>
                obtain ⟨q, hq, rfl, rfl, rfl⟩ := hrel
                by_cases hqN : q < hN'
                · obtain ⟨x, hx⟩ : ∃ x, said[q]? = some x := ⟨_, List.getElem?_eq_getElem (by rw [HSM.out]; omega)⟩
                  obtain ⟨sg, rfl, c1⟩ := HS'.out.sd.get hx
                  have hx' : (said.take hN')[q]? = some x := by rw [List.getElem?_take, if_pos hqN]; exact hx
                  obtain ⟨tg, rfl, c2⟩ := HS'.out.ss.get hx'
                  have hqi : (q : Int) < (hN' : Int) := by omega
                  have hqm : (q : Int) < (m : Int) := by omega
                  have hqd : decide ((m : Int) ≤ (q : Int)) = false := decide_eq_false (by omega)
                  clear hx hx'
                  go_wp2_with fail
                  go_roundg (hN' - (q + 1))
                  case measure => omega
                  case rel => exact ⟨q + 1, by omega, rfl, by go_num, rfl⟩
                · obtain rfl : q = hN' := by omega
                  go_wp2_with fail
                  go_roundg (am - (i + 1))
                  case measure => omega
                  case rel => exact ⟨i + 1, by omega, rfl, by go_num, q, N', L', _, hNm', by omega, HL'.out, HS'.out⟩
          · obtain rfl : i = am := by omega
            have HY := Lib.hid hS
            clear hS hLm
            go_wp2_with fail
            go_loopg [] L.length (fun k wr => ∃ (N : Nat → Prop) (L : List Lt), L.length ≤ k ∧ SyN N n A W0 wr L m (.slice aw m dw) (pks 0 said) hN tv (said.take hN) (.slice sa m sd) said)
            case atStart => exact ⟨N1, L, Nat.le_refl _, HY.out⟩
            case round =>
              clear HY
              obtain ⟨N2, L2, hLk, hS⟩ := hrel
              have pb0 := hS.pb.cell
              have HLen := Lib.hid (len_u hS.air)
              have HY := Lib.hid hS
              by_cases hL0 : 0 < L2.length
              · have hL0' : (0 : Int) < (L2.length : Int) := by omega
                have HTk := Lib.hid (take_u hS.air 0)
                clear hS
                go_wp2_with (go_at_call 18; refine HLen.out.mono ?_; rintro e w4 ⟨rfl, rfl⟩)
                refine HTk.out.mono ?_
                rintro e w4 ⟨lf, lt', la', lm', ld', c, L', rfl, hA4, hK4, hc⟩
                have hlt : L'.length < gk := by
                  rcases hc with ⟨-, x, -, -, rfl⟩ | ⟨-, h0, -⟩
                  · rw [List.length_eraseIdx_of_lt hL0]; omega
                  · have := List.getElem?_eq_none_iff.1 h0; omega
                have HE := Lib.hid (HY.out.air_step hA4 hK4)
                clear hA4 hK4 hc
                go_wp2_with fail
                go_roundg L'.length
                case measure => exact hlt
                case rel => exact ⟨N2, L', Nat.le_refl _, HE.out⟩
              · have hL0' : ¬ (0 : Int) < (L2.length : Int) := by omega
                obtain rfl : L2 = [] := List.length_eq_zero_iff.1 (by omega)
                obtain ⟨p0, p1, p2, q0, q1, q2⟩ := hS.ob.cells
                obtain ⟨i0', i1'⟩ := hS.ib.cells
                have HAck := Lib.hid (acked19 aw m dw hN (pks 0 said) 100 wr hS.ps.read (pks_consec (fun s h => by have := HSZ.out s h; omega)) (by decide) (by decide) (by omega) hNm)
                clear hS
                go_wp2_with (go_at_call 18; refine HLen.out.mono ?_; rintro e w4 ⟨rfl, rfl⟩)
                refine HAck.out.mono ?_
                rintro e w4 ⟨a4, d4, rfl, hP4, hf4, hB4⟩
                have hS4 := HY.out.fresh hB4
                obtain ⟨mw, hmw⟩ : ∃ mw, mw = m - hN := ⟨_, rfl⟩
                rw [← hmw] at hP4 hf4 ⊢
                have hmw2 : hN + mw = m := by omega
                rw [pks_drop, Nat.zero_add] at hP4
                obtain ⟨w5, hw5⟩ : ∃ w5, w5 = ((w4.setCell ⟨n + 1, 0, none⟩ (.int .i64 m)).setCell ⟨n + 1, 1, none⟩ (.slice a4 mw d4)).setCell ⟨n + 1, 2, none⟩ (.int .i64 100) := ⟨_, rfl⟩
                have hS5 := hS4.setO (nx' := (m : Int)) hP4 (fun k hk => .inr ⟨hf4 k hk, hP4.lt k hk⟩) hw5
                obtain ⟨p0', p1', p2', q0', q1', q2'⟩ := hS4.ob.cells
                have HS5 := Lib.hid hS5
                have HW5 := Lib.hid hw5
                have HMW := Lib.hid hmw
                clear hP4 hf4 hB4 hS4 hw5 hS5 hmw p0 p1 p2 q0 q1 q2 i0' i1' pb0
                go_upto_region 43 with fail
                rw [← HW5.out]
                clear p0' p1' p2' q0' q1' q2'
                obtain ⟨p0, p1, p2, -⟩ := HS5.out.ob.cells
                have hpl : (pks hN (said.drop hN)).length = mw := by rw [pks_len, List.length_drop, HSM.out]; omega
                have HPL := Lib.hid hpl
                clear hpl
                go_wp2_with fail
                clear p0 p1 p2
                go_loopg [150] mw (fun k ix wr => ∃ (q : Nat) (N : Nat → Prop), q ≤ mw ∧ k = mw - q ∧ ix = .int .i64 q ∧ SyN N n A W0 wr (((pks hN (said.drop hN)).take q).map ltOf) m (.slice a4 mw d4) (pks hN (said.drop hN)) hN tv (said.take hN) (.slice sa m sd) said)
                case atStart => exact ⟨0, _, by omega, by omega, rfl, by rw [List.take_zero]; exact HS5.out⟩
                case round =>
                  clear HS5 HY HLen HAck
                  obtain ⟨q, N5, hq, rfl, rfl, hS⟩ := hrel
                  by_cases hqm : q < mw
                  · obtain ⟨p, hp⟩ : ∃ p, (pks hN (said.drop hN))[q]? = some p := ⟨_, List.getElem?_eq_getElem (by rw [HPL.out]; exact hqm)⟩
                    have hqi : (q : Int) < (mw : Int) := by omega
                    have hpq : p.q = ((hN + q : Nat) : Int) ∧ p.s.size ≤ 100 := by
                      rw [pks_at, List.getElem?_drop] at hp
                      cases e : said[hN + q]? with
                      | none => rw [e] at hp; cases hp
                      | some y =>
                        rw [e] at hp
                        simp at hp
                        subst hp
                        exact ⟨by show (hN : Int) + (q : Int) = _; omega, HSZ.out y (List.mem_of_getElem? e)⟩
                    rcases hS.ps.read with ⟨_, h, _⟩ | ⟨gb, rfl, hgl, _, _, _, hcc⟩
                    · omega
                    · obtain ⟨y0, y1⟩ := hcc q p hp
                      obtain ⟨w6, hw6⟩ : ∃ w6, w6 = wr.alloc (.cells #[.int .i64 p.q, .string p.s] 54) := ⟨_, rfl⟩
                      have hB6 : Below wr.heap.size wr w6 := by rw [hw6]; exact (Below.refl _ wr).alloc (Nat.le_refl _) _
                      have hk6 : KB w6 wr.heap.size p.q p.s := by rw [hw6]; exact heap_alloc_new wr _
                      have hS6 := hS.fresh hB6
                      obtain ⟨k0, k1, -⟩ := hk6.cells
                      have HSend := Lib.hid (send_u p hS6.air hS6.pb hS6.n0 (by omega) (by omega) (by omega) (by rw [List.length_map, List.length_take]; omega))
                      have HS6 := Lib.hid hS6
                      have HW6 := Lib.hid hw6
                      have HP := Lib.hid hp
                      clear hcc hp hpq hS hB6 hk6 hS6 hw6
                      go_upto_region 48 with fail
                      rw [← HW6.out]
                      go_wp2_with fail
                      refine HSend.out.mono ?_
                      rintro e w7 ⟨rfl, hA7, hK7⟩
                      have hS7 := HS6.out.air_step hA7 hK7
                      have HS7 := Lib.hid hS7
                      clear hA7 hK7 hS7
                      go_wp2_with fail
                      go_roundg (mw - (q + 1))
                      case measure => omega
                      case rel =>
                        have h := HS7.out
                        have e2 : ((pks hN (said.drop hN)).take q).map ltOf ++ [ltOf p] = ((pks hN (said.drop hN)).take (q + 1)).map ltOf := by
                          rw [List.take_add_one, HP.out, List.map_append]; rfl
                        rw [e2] at h
                        exact ⟨q + 1, _, by omega, rfl, by go_num, h⟩
                  · obtain rfl : q = mw := by omega
                    have e3 : (pks hN (said.drop hN)).take q = pks hN (said.drop hN) := List.take_of_length_le (by rw [HPL.out]; exact Nat.le_refl _)
                    rw [e3] at hS
                    have HS := Lib.hid hS
                    clear hS e3
                    go_wp2_with fail
                    go_loopg [] (m - hN) (fun k wr => ∃ (c : Nat) (N : Nat → Prop) (tv : Value), c ≤ m ∧ k = m - c ∧ SyN N n A W0 wr ((pks c (said.drop c)).map ltOf) m (.slice a4 q d4) (pks hN (said.drop hN)) c tv (said.take c) (.slice sa m sd) said)
                    case atStart => exact ⟨hN, _, _, hNm, rfl, HS.out⟩
                    case round =>
                      clear HS
                      obtain ⟨c, N7, tv7, hcm, rfl, hS⟩ := hrel
                      have hll : ((pks c (said.drop c)).map ltOf).length = m - c := by rw [List.length_map, pks_len, List.length_drop, HSM.out]
                      have hLen := len_u hS.air
                      rw [hll] at hLen
                      have HLen := Lib.hid hLen
                      have pb0 := hS.pb.cell
                      by_cases hcl : c < m
                      · obtain ⟨x, hx⟩ : ∃ x, said[c]? = some x := ⟨_, List.getElem?_eq_getElem (by rw [HSM.out]; exact hcl)⟩
                        have hc0 : (0 : Int) < ((m - c : Nat) : Int) := by omega
                        have hTk := take_u hS.air 0
                        have hmem : (⟨(c : Int), x⟩ : Pk) ∈ pks 0 said := by
                          refine List.mem_of_getElem? (i := c) ?_
                          rw [pks_at, hx]; simp
                        rw [pks_next hx, List.map_cons] at hTk
                        have HTk := Lib.hid hTk
                        have HY := Lib.hid hS
                        clear hS hx hll hLen hTk
                        go_wp2_with (go_at_call 18; refine HLen.out.mono ?_; rintro e w8 ⟨rfl, rfl⟩)
                        refine HTk.out.mono ?_
                        rintro e w8 ⟨lf, lt', la', lm', ld', cc, L', rfl, hA8, hK8, hcs⟩
                        rcases hcs with ⟨rfl, y, hy, hR, rfl⟩ | ⟨-, h0, -⟩
                        · simp at hy
                          subst hy
                          simp only [List.eraseIdx_cons_zero] at hA8
                          obtain ⟨w9, hw9⟩ : ∃ w9, w9 = w8.alloc (.cells #[.int .u8 lf, .int .u8 lt', .slice la' lm' ld'] 37) := ⟨_, rfl⟩
                          have hB9 : Below w8.heap.size w8 w9 := by rw [hw9]; exact (Below.refl _ w8).alloc (Nat.le_refl _) _
                          have hb9 : LB w9 w8.heap.size lf lt' (.slice la' lm' ld') := by rw [hw9]; exact heap_alloc_new w8 _
                          have hS9 := (HY.out.air_step hA8 hK8).fresh hB9
                          obtain ⟨b0, b1, b2⟩ := hb9.cells
                          have HH := Lib.hid (hear_u hS9 HSM.out hm60 hcm HSZ.out ⟨(c : Int), x⟩ hmem lf lt' la' lm' ld' (hR.below hB9))
                          have HW9 := Lib.hid hw9
                          clear hA8 hK8 hw9 hB9 hb9 hS9 hR hmem
                          go_upto_region 52 with fail
                          rw [← HW9.out]
                          go_wp2_with fail
                          refine HH.out.mono ?_
                          rintro e w10 ⟨rfl, c', tv10, hc'm, hc', hS10⟩
                          obtain rfl := hc' (by first | trivial | rfl)
                          have HS10 := Lib.hid hS10
                          clear hS10 hc'
                          go_wp2_with fail
                          go_roundg (m - (c + 1))
                          case measure => omega
                          case rel => exact ⟨c + 1, _, tv10, hc'm, rfl, HS10.out⟩
                        · simp at h0
                      · obtain rfl : c = m := by omega
                        have hc0 : ¬ (0 : Int) < ((c - c : Nat) : Int) := by omega
                        have htl : (said.take c).length = c := by rw [List.length_take, HSM.out]; omega
                        obtain ⟨ta, td, rfl⟩ := hS.ss.slice
                        rw [htl] at hS
                        obtain ⟨r0, -⟩ := hS.tb.cell
                        obtain ⟨i0', -⟩ := hS.ib.cells
                        have hbel := hS.bel
                        clear hS hll hLen
                        go_wp2_with (go_at_call 18; refine HLen.out.mono ?_; rintro e w8 ⟨rfl, rfl⟩)
                        go_ret
                        exact ⟨rfl, hbel⟩
end Go.Proofs.YtehgbpepaakanaaDoor
