/-
  RingTypes: the walk.
-/
import Derived.Test.YthehhnlkpcfofaaStr
import Derived.Test.YthehhnlkpcfofaaP2
import Derived.Test.YthehhnlkpcfofaaActs
import Derived.Deep.RegionHeld3
namespace Go.Proofs.Ythehhnlkpcfofaa
open Go.RowKit Go.Shelf
set_option linter.unusedVariables false
set_option linter.unusedSimpArgs false

attribute [local go_sem] Oper.semAt_some

/-- -x as the program has it. -/
def ngp (x : Int) : Int × Int := (x, IntKind.i64.wrap (-x))

/-- Two rows apart: of numbers, and of pairs. -/
structure Two (W : World) (ba bb : Nat) (va vb : Value) (rm : Int) (zs : List Int) (ys : List (Int × Int)) : Prop where
  a : RI W ba va rm zs
  b : R2 W bb vb rm ys
  dis : ∀ k, Of ba va k → ¬ Of bb vb k

section
variable {W W' : World} {ba bb : Nat} {va vb va' vb' : Value} {rm : Int} {zs zs' : List Int} {ys ys' : List (Int × Int)}
theorem Two.stepA (T : Two W ba bb va vb rm zs ys) (R : RI W' ba va' rm zs') (U : Upd (Of ba va) W W') (o : va'.ownBlock = va.ownBlock ∨ ∃ g, va'.ownBlock = some g ∧ W.heap.size ≤ g) : Two W' ba bb va' vb rm zs' ys :=
  ⟨R, T.b.upd U (fun k hk h => T.dis k h hk), fun k hk hb => by
    rcases hk with rfl | hk
    · exact T.dis _ (.inl rfl) hb
    · rcases o with e | ⟨g, e, hg⟩
      · exact T.dis k (.inr (e.symm.trans hk)) hb
      · have eg : g = k := by rw [e] at hk; simpa using hk
        have := RA.lt T.b k hb
        omega⟩
theorem Two.stepB (T : Two W ba bb va vb rm zs ys) (R : R2 W' bb vb' rm ys') (U : Upd (Of bb vb) W W') (o : vb'.ownBlock = vb.ownBlock ∨ ∃ g, vb'.ownBlock = some g ∧ W.heap.size ≤ g) : Two W' ba bb va vb' rm zs ys' :=
  ⟨T.a.upd U (fun k hk h => T.dis k hk h), R, fun k hk hb => by
    rcases hb with rfl | hb
    · exact T.dis _ hk (.inl rfl)
    · rcases o with e | ⟨g, e, hg⟩
      · exact T.dis k hk (.inr (e.symm.trans hb))
      · have eg : g = k := by rw [e] at hb; simpa using hb
        have := RA.lt T.a k hk
        omega⟩
theorem Two.upd (T : Two W ba bb va vb rm zs ys) (U : Upd (fun _ => False) W W') : Two W' ba bb va vb rm zs ys := ⟨T.a.upd U (fun _ _ h => h), T.b.upd U (fun _ _ h => h), T.dis⟩
end

theorem RA.not_of {T e sz : Nat} {A : World} {b : Nat} {v : Value} {room : Int} {n : Nat} {xs : List Value} (h : RA T e sz A b v room n xs) {k : Nat} {cs : Array Value} {t : TypeId} (hk : A.heap[k]? = some (.cells cs t (0, 0))) (hT : T ≠ t) (he : e ≠ t) : ¬ Of b v k := by
  rintro (rfl | hv)
  · have := h.1.symm.trans hk
    simp at this
    exact hT this.2
  · exact own_block_ne h.2 hk he hv

/-- .. and all that the second loop's round knows. -/
structure St (w6 W : World) (ba bb : Nat) (va vb : Value) (rm : Int) (zs : List Int) (ys : List (Int × Int)) (g : Nat) (cs : Array Value) : Prop where
  two : Two W ba bb va vb rm zs ys
  ha : Hi w6.heap.size ba va
  hb : Hi w6.heap.size bb vb
  below : Below w6.heap.size w6 W
  box : W.heap[g]? = some (.cells cs 42 (0, 0))

section
variable {w6 W W' : World} {ba bb g : Nat} {va vb va' vb' : Value} {rm : Int} {zs zs' : List Int} {ys ys' : List (Int × Int)} {cs : Array Value}
theorem St.a (h : St w6 W ba bb va vb rm zs ys g cs) (R : RI W' ba va' rm zs') (U : Upd (Of ba va) W W') (o : va'.ownBlock = va.ownBlock ∨ ∃ g, va'.ownBlock = some g ∧ W.heap.size ≤ g) : St w6 W' ba bb va' vb rm zs' ys g cs :=
  ⟨h.two.stepA R U o, h.ha.new h.below.size o, h.hb, U.onto h.below h.below.size h.ha, U.heap h.box (h.two.a.not_of h.box (by decide) (by decide))⟩
theorem St.b (h : St w6 W ba bb va vb rm zs ys g cs) (R : R2 W' bb vb' rm ys') (U : Upd (Of bb vb) W W') (o : vb'.ownBlock = vb.ownBlock ∨ ∃ g, vb'.ownBlock = some g ∧ W.heap.size ≤ g) : St w6 W' ba bb va vb' rm zs ys' g cs :=
  ⟨h.two.stepB R U o, h.ha, h.hb.new h.below.size o, U.onto h.below h.below.size h.hb, U.heap h.box (RA.not_of h.two.b h.box (by decide) (by decide))⟩
theorem St.upd (h : St w6 W ba bb va vb rm zs ys g cs) (U : Upd (fun _ => False) W W') : St w6 W' ba bb va vb rm zs ys g cs :=
  ⟨h.two.upd U, h.ha, h.hb, U.onto h.below h.below.size (fun _ h => h.elim), U.heap h.box (fun h => h)⟩
theorem St.cell {k x i : Int} (h : St w6 W ba bb va vb rm zs ys g #[.int .u8 k, .int .i64 x, .int .i64 i]) : W.cell? ⟨g, 0, none⟩ = some (.int .u8 k) ∧ W.cell? ⟨g, 1, none⟩ = some (.int .i64 x) ∧ W.cell? ⟨g, 2, none⟩ = some (.int .i64 i) :=
  ⟨blk_cell h.box 0, blk_cell h.box 1, blk_cell h.box 2⟩
theorem St.erase {i : Nat} (h : St w6 W ba bb va vb rm (zs.eraseIdx i) ((zs.map ngp).eraseIdx i) g cs) : St w6 W ba bb va vb rm (zs.eraseIdx i) ((zs.eraseIdx i).map ngp) g cs := by
  rw [List.eraseIdx_eq_take_drop_succ, List.map_append, List.map_take, List.map_drop, ← List.eraseIdx_eq_take_drop_succ, ← List.eraseIdx_eq_take_drop_succ]; exact h
theorem St.push {x : Int} (h : St w6 W ba bb va vb rm (zs ++ [x]) (zs.map ngp ++ [ngp x]) g cs) : St w6 W ba bb va vb rm (zs ++ [x]) ((zs ++ [x]).map ngp) g cs := by
  rw [List.map_append]; exact h
end

/-- What RingTypes has in its first loop: the result, the row that no call made, the two rows. -/
structure Ty (w : World) (g1 g2 : Nat) (A : World) : Prop where
  br : A.heap[w.heap.size]? = some (.cells #[.bool false] 4 (0, 0))
  b1 : A.heap[g1]? = some (.cells #[.slice none 0 0, .int .i64 0] 54 (0, 0))
  b2 : A.heap[g2]? = some (.cells #[.pointer none, .pointer (some ⟨g1, 0, none⟩)] 51 (0, 0))
  below : Below w.heap.size w A

theorem Ty.upd {w : World} {g1 g2 : Nat} {A A' : World} (h : Ty w g1 g2 A) {S : Nat → Prop} (hu : Upd S A A') (hS : ∀ k, S k → w.heap.size < k ∧ k ≠ g1 ∧ k ≠ g2) : Ty w g1 g2 A' :=
  ⟨hu.heap h.br (fun h => by have := (hS _ h).1; omega), hu.heap h.b1 (fun h => (hS _ h).2.1 rfl), hu.heap h.b2 (fun h => (hS _ h).2.2 rfl), h.below.trans (hu.below h.below.size (fun i hi h => by have := (hS _ h).1; omega))⟩

theorem types_end {w A : World} {tmps : Array Value} {D1 D2 : Nat} (ht : tmps[4]? = some (.pointer (some ⟨w.heap.size, 0, none⟩))) (hb : A.heap[w.heap.size]? = some (.cells #[.bool false] 4 (0, 0)))
    (h1 : A.heap[D1]? = some (.deferred (some []))) (h2 : A.heap[D2]? = some (.deferred (some []))) (h0 : w.heap.size < D1) (h12 : D1 < D2) (hB : Below w.heap.size w A) :
    LeavesInM Fence.wide 9 Try.prog Try.f7 tmps (fun e w' => e = .returned (.bool true) ∧ Below w.heap.size w w') [{ target := .collected D2, args := #[] }, { target := .collected D1, args := #[] }] .returning (A.setCell ⟨w.heap.size, 0, none⟩ (.bool true)) := by
  have s1 := blk_set hb 0 (.bool true)
  have d2 := blk_far h2 ⟨w.heap.size, 0, none⟩ (by show D2 ≠ w.heap.size; omega) (.bool true)
  have d1 := blk_far h1 ⟨w.heap.size, 0, none⟩ (by show D1 ≠ w.heap.size; omega) (.bool true)
  refine ⟨by simp, .inl ⟨_, _, rfl, run_takeDeferred d2, ?_⟩⟩
  have d1' := (World.putObj_heap_other (w := A.setCell ⟨w.heap.size, 0, none⟩ (.bool true)) (r := D2) (o := .deferred none) (Nat.ne_of_lt h12)).trans d1
  refine ⟨by simp, .inl ⟨_, _, rfl, run_takeDeferred d1', ?_⟩⟩
  have e2 := (World.putObj_heap_other (w := (A.setCell ⟨w.heap.size, 0, none⟩ (.bool true)).putObj D2 (.deferred none)) (r := D1) (o := .deferred none) (Nat.ne_of_lt h0)).trans ((World.putObj_heap_other (w := A.setCell ⟨w.heap.size, 0, none⟩ (.bool true)) (r := D2) (o := .deferred none) (by omega : w.heap.size ≠ D2)).trans s1)
  have hc := blk_cell e2 0
  simp at hc
  refine ⟨.bool true, ?_, rfl, ?_⟩
  · simp [results, Try.results7, go_sem, hc, ht]
  · have u1 := hB.setCell (p := ⟨w.heap.size, 0, none⟩) (Nat.le_refl _) (.bool true)
    exact u1.trans ((((Upd.refl (fun k => w.heap.size ≤ k) _).putObj D2 (.deferred none) (fun _ => by omega)).putObj D1 (.deferred none) (fun _ => by omega)).below u1.size (fun i hi h => by omega))

theorem RA.not_obj {T e sz : Nat} {A : World} {b : Nat} {v : Value} {room : Int} {n : Nat} {xs : List Value} (h : RA T e sz A b v room n xs) {k : Nat} {o : Obj} (hk : A.heap[k]? = some o) (ho : o.isCells = false) : ¬ Of b v k := by
  rintro (rfl | hv)
  · rw [h.1] at hk; cases hk; cases ho
  · rcases h.2.2 with ⟨rfl, _⟩ | ⟨g, cap, cur, rfl, _, hh, _⟩
    · simp [Value.ownBlock] at hv
    · have : g = k := by simpa [Value.ownBlock] using hv
      subst this
      rw [hh] at hk; cases hk; cases ho

set_option maxRecDepth 100000 in
set_option maxHeartbeats 8000000 in
theorem ringTypes_walk (a0 : Option Addr) (len0 cap0 : Nat) (acs : List Ac) (rm : Int) (w : World) (hA : Acts w.heap.size w a0 acs) (hlen : acs.length = len0) (hlc : (len0 : Int) ≤ 9223372036854775807 ∧ ∀ ac ∈ acs, ac.Ok) (wr : (Lit.int .u8 rm).wf = true) :
    Calls Try.prog 7 #[.slice a0 len0 cap0, .int .u8 rm] w fun e w' => e = .returned (.bool true) ∧ Below w.heap.size w w' := by
  have hrw := bounds_u8 wr
  have HA := Lib.hid hA
  have HL := Lib.hid hlen
  have hl := hlc.1
  have HO := Lib.hid hlc.2
  clear wr hA hlen hlc
  obtain ⟨w1, hw1⟩ : ∃ w1, w.alloc (.cells #[.bool false] 4) = w1 := ⟨_, rfl⟩
  have hB1 : Below w.heap.size w w1 := by rw [← hw1]; exact (Below.refl _ w).alloc (Nat.le_refl _) _
  have hbr : w1.heap[w.heap.size]? = some (.cells #[.bool false] 4 (0, 0)) := by rw [← hw1]; exact heap_alloc_new w _
  have HW1 := Lib.hid hw1
  clear hw1
  refine calls_marks Try.func7 rfl ?_
  simp only [Try.ntmps7, List.size_toArray, List.length_cons, List.length_nil, Nat.reduceAdd, Nat.reduceSub, Array.replicate_succ, Array.replicate_zero, List.push_toArray, List.append_toArray, List.nil_append, List.cons_append]
  go_wp2_with fail
  rw [HW1.out]
  refine (alive_yes _).mono ?_
  rintro e wa ⟨rfl, hBa⟩
  obtain ⟨g1, hg1⟩ : ∃ g1, g1 = wa.heap.size := ⟨_, rfl⟩
  obtain ⟨w2, hw2⟩ : ∃ w2, (wa.alloc (.cells #[.slice none 0 0, .int .i64 0] 54)).alloc (.cells #[.pointer none, .pointer (some ⟨g1, 0, none⟩)] 51) = w2 := ⟨_, rfl⟩
  have hlt := lt_of_heap hbr
  have hza := hBa.size
  have T2 : Ty w g1 (g1 + 1) w2 := by
    refine ⟨?_, ?_, ?_, ?_⟩
    · rw [← hw2]; exact blk_alloc (blk_alloc ((hBa.block _ hlt).trans hbr) _) _
    · rw [← hw2, hg1]; exact blk_alloc (heap_alloc_new wa _) _
    · rw [← hw2, hg1]; have := heap_alloc_new (wa.alloc (.cells #[.slice none 0 0, .int .i64 0] 54)) (.cells #[.pointer none, .pointer (some ⟨wa.heap.size, 0, none⟩)] 51); rwa [World.size_alloc] at this
    · rw [← hw2]; exact ((hB1.trans (hBa.mono hB1.size)).alloc (by omega) _).alloc (by simp; omega) _
  have hlg : w.heap.size < g1 := by omega
  have HW2 := Lib.hid hw2
  have HG := Lib.hid hg1
  clear hw2 hg1 hza hlt hbr hB1 hBa
  go_upto_region 4 with fail
  rw [← HG.out, HW2.out]
  refine wp_loop_rounds 3 ?_
  -- a round
  have cp := blk_cell T2.b2 0
  have c1 := blk_cell T2.b1 1
  have hbad : SBad w2 (none) := .inl rfl
  simp at cp c1
  rw [rounds_succ]
  go_wp2_with fail
  refine (sPop (none) _ hbad).mono ?_
  rintro e wq ⟨rfl, rfl⟩
  go_wp2_with fail
  refine (sAt (none) 0 _ hbad).mono ?_
  rintro e wq ⟨rfl, rfl⟩
  go_wp2_with fail
  refine (sAll (none) _ hbad).mono ?_
  rintro e wq ⟨rfl, rfl⟩
  obtain ⟨w3, hYw3⟩ : ∃ Y, w2.alloc (.cells #[.slice none 0 0] 52) = Y := ⟨_, rfl⟩
  have hUw3 : Upd (fun _ => False) w2 w3 := by rw [← hYw3]; exact (Upd.refl _ _).alloc _
  have Tw3 : Ty w g1 (g1 + 1) w3 := T2.upd hUw3 (fun _ h => h.elim)
  have hbxw3 : w3.heap[w2.heap.size]? = some (.cells #[.slice none 0 0] 52 (0, 0)) := by rw [← hYw3]; exact heap_alloc_new _ _
  have hszw3 : w3.heap.size = w2.heap.size + 1 := by rw [← hYw3]; simp

  have HYw3 := Lib.hid hYw3
  have hg1w3 := lt_of_heap Tw3.b1
  have hg2w3 := lt_of_heap Tw3.b2
  have hg0w3 := lt_of_heap Tw3.br
  clear hYw3 cp c1 hbad
  go_wp2_with fail
  rw [HYw3.out]
  refine wp_rangeFunc_U2 (gf := 41) (lb := #[.pointer (some ⟨w2.heap.size, 0, none⟩)]) rfl (enters_of Try.func41 (by kernel_rfl) rfl)
    (sAll1_U Fence.wide 8 trivial trivial trivial rfl (by omega) w2.heap.size (fun k => k = w2.heap.size) rfl w3 (fun k hk => by omega) (by rw [blk_cell hbxw3]; rfl)) (Keeps.refl _ _) (fun k hk => by omega) (fun _ => rfl)
    (fun _ A => Ty w g1 (g1 + 1) A) (fun _ _ _ => False) ?hIw3 (fun _ _ _ _ h _ => h) Tw3 ?roundw3 ?donew3 (fun _ _ _ _ h _ => h.elim)
  case hIw3 =>
    intro s A A' hs hu
    exact hs.upd hu (fun k hk => by have := hk.1; omega)
  case roundw3 =>
    intro x
    apply Exists.intro
    intro l
    refine ⟨?assign1, fun _ _ _ hp _ => (not_pre_nil hp).elim⟩
    intro W K hK
    gi_wp2
    exact hK
  case donew3 =>
  rintro w4 T4 hKw4
  have hbad2 : SBad w4 (none) := .inl rfl
  go_wp2_with fail
  refine (sPush (none) _ _ hbad2).mono ?_
  rintro e wq ⟨rfl, rfl⟩
  go_wp2_with fail
  refine (sDrop (none) 0 _ hbad2).mono ?_
  rintro e wq ⟨rfl, rfl⟩
  go_wp2_with fail
  refine (sLen (none) _ hbad2).mono ?_
  rintro e wq ⟨rfl, rfl⟩
  go_wp2_with fail
  -- a round
  have cp := blk_cell T4.b2 1
  have c1 := blk_cell T4.b1 1
  have hbad : SBad w4 (some ⟨g1, 0, none⟩) := .inr ⟨g1, rfl, by rw [blk_cell T4.b1]; rfl⟩
  simp at cp c1
  rw [rounds_succ]
  go_wp2_with fail
  refine (sPop (some ⟨g1, 0, none⟩) _ hbad).mono ?_
  rintro e wq ⟨rfl, rfl⟩
  go_wp2_with fail
  refine (sAt (some ⟨g1, 0, none⟩) 0 _ hbad).mono ?_
  rintro e wq ⟨rfl, rfl⟩
  go_wp2_with fail
  refine (sAll (some ⟨g1, 0, none⟩) _ hbad).mono ?_
  rintro e wq ⟨rfl, rfl⟩
  obtain ⟨w5, hYw5⟩ : ∃ Y, w4.alloc (.cells #[.slice none 0 0] 52) = Y := ⟨_, rfl⟩
  have hUw5 : Upd (fun _ => False) w4 w5 := by rw [← hYw5]; exact (Upd.refl _ _).alloc _
  have Tw5 : Ty w g1 (g1 + 1) w5 := T4.upd hUw5 (fun _ h => h.elim)
  have hbxw5 : w5.heap[w4.heap.size]? = some (.cells #[.slice none 0 0] 52 (0, 0)) := by rw [← hYw5]; exact heap_alloc_new _ _
  have hszw5 : w5.heap.size = w4.heap.size + 1 := by rw [← hYw5]; simp
  have K5 := hUw5.heap hKw4 (fun h => h)
  have hd5 := lt_of_heap K5
  have HYw5 := Lib.hid hYw5
  have hg1w5 := lt_of_heap Tw5.b1
  have hg2w5 := lt_of_heap Tw5.b2
  have hg0w5 := lt_of_heap Tw5.br
  clear hYw5 cp c1 hbad
  go_wp2_with fail
  rw [HYw5.out]
  refine wp_rangeFunc_U2 (gf := 41) (lb := #[.pointer (some ⟨w4.heap.size, 0, none⟩)]) rfl (enters_of Try.func41 (by kernel_rfl) rfl)
    (sAll1_U Fence.wide 8 trivial trivial trivial rfl (by omega) w4.heap.size (fun k => k = w4.heap.size) rfl w5 (fun k hk => by omega) (by rw [blk_cell hbxw5]; rfl)) (Keeps.refl _ _) (fun k hk => by omega) (fun _ => rfl)
    (fun _ A => Ty w g1 (g1 + 1) A ∧ A.heap[w3.heap.size]? = some (.deferred (some []))) (fun _ _ _ => False) ?hIw5 (fun _ _ _ _ h _ => h) ⟨Tw5, K5⟩ ?roundw5 ?donew5 (fun _ _ _ _ h _ => h.elim)
  case hIw5 =>
    intro s A A' hs hu
    exact ⟨hs.1.upd hu (fun k hk => by have := hk.1; omega), hu.heap hs.2 (fun h => by have := h.1; omega)⟩
  case roundw5 =>
    intro x
    apply Exists.intro
    intro l
    refine ⟨?assign2, fun _ _ _ hp _ => (not_pre_nil hp).elim⟩
    intro W K hK
    gi_wp2
    exact hK
  case donew5 =>
  rintro w6 ⟨T6, K6⟩ hKw6
  have hbad2 : SBad w6 (some ⟨g1, 0, none⟩) := .inr ⟨g1, rfl, by rw [blk_cell T6.b1]; rfl⟩
  go_wp2_with fail
  refine (sPush (some ⟨g1, 0, none⟩) _ _ hbad2).mono ?_
  rintro e wq ⟨rfl, rfl⟩
  go_wp2_with fail
  refine (sDrop (some ⟨g1, 0, none⟩) 0 _ hbad2).mono ?_
  rintro e wq ⟨rfl, rfl⟩
  go_wp2_with fail
  refine (sLen (some ⟨g1, 0, none⟩) _ hbad2).mono ?_
  rintro e wq ⟨rfl, rfl⟩
  go_wp2_with fail
  rw [rounds_succ]
  have br6 := blk_cell T6.br 0
  have fr6 := blk_frozen T6.br 0
  simp at br6
  have hDE : w3.heap.size < w5.heap.size := hd5
  have hDB : w.heap.size < w3.heap.size := hg0w3
  rw [hszw3] at hDE hDB
  rw [hszw5] at hDE
  rw [hszw3] at K6
  rw [hszw5] at hKw6
  have hlD : w2.heap.size + 1 < w6.heap.size := lt_of_heap K6
  have hlE : w4.heap.size + 1 < w6.heap.size := lt_of_heap hKw6
  by_cases hz : rm = 0
  · subst hz
    go_wp2_with fail
    refine (new_no 0 _ (by decide)).mono ?_
    rintro e wq ⟨rfl, rfl⟩
    go_wp2_with fail
    refine (pNew_no 0 _ (by decide)).mono ?_
    rintro e wq ⟨rfl, rfl⟩
    go_wp2_with fail
    exact types_end rfl T6.br K6 hKw6 (by omega) hDE T6.below
  · have hr1 : 1 ≤ rm := by omega
    have hr0 : 0 < rm := by omega
    go_wp2_with fail
    refine (new_ok rm _ hr1 (by omega)).mono ?_
    rintro e w7 ⟨rfl, hR, hBn⟩
    go_wp2_with fail
    refine (pNew_ok rm _ hr1 (by omega)).mono ?_
    rintro e w8 ⟨rfl, hw8⟩
    have hR2 := pNew_ring rm w7
    rw [← hw8] at hR2
    have hU8 : Upd (fun _ => False) w7 w8 := by rw [hw8]; exact (Upd.refl _ _).alloc _
    have hz7 := hBn.size
    have hz8 : w8.heap.size = w7.heap.size + 1 := by rw [hw8]; simp
    have hba := lt_of_heap hR.1
    have TW : Two w8 w6.heap.size w7.heap.size (.slice none 0 0) (.slice none 0 0) rm [] [] :=
      ⟨RI.upd (zs := []) hR hU8 (fun _ _ h => h), hR2, fun k hk hb => by
        rcases hk with rfl | hk
        · rcases hb with e | hb
          · omega
          · simp [Value.ownBlock] at hb
        · simp [Value.ownBlock] at hk⟩
    have HA8 : Hi w6.heap.size w6.heap.size (.slice none 0 0) := Hi.none (Nat.le_refl _)
    have HB8 : Hi w6.heap.size w7.heap.size (.slice none 0 0) := Hi.none hz7
    have B8 : Below w6.heap.size w6 w8 := hBn.trans (hU8.below hz7 (fun _ _ h => h))
    obtain ⟨ba, hba'⟩ : ∃ ba, w6.heap.size = ba := ⟨_, rfl⟩
    rw [hba'] at TW
    have HA9 : Hi w6.heap.size ba (.slice none 0 0) := Hi.none (Nat.le_of_eq hba')
    rw [hba']
    generalize w7.heap.size = bb at TW HB8 ⊢
    clear hR hR2 hBn hw8 hU8 hz7 hz8 hba hba' HA8
    go_wp2_with fail
    go_loopw [13] (fun ix wr => ∃ (k : Nat) (zs : List Int) (va vb : Value), k ≤ len0 ∧ k ≤ 100 ∧ ix = .int .i64 k ∧ Two wr ba bb va vb rm zs (zs.map ngp) ∧ (zs.length : Int) ≤ rm ∧ Hi w6.heap.size ba va ∧ Hi w6.heap.size bb vb ∧ Below w6.heap.size w6 wr) (fun ix _ => len0 - (intOf ix).toNat)
    case atStart => exact ⟨0, [], _, _, Nat.zero_le _, by omega, rfl, TW, by simp; omega, HA9, HB8, B8⟩
    case round =>
      obtain ⟨k, zs, va, vb, hk, hk1, rfl, TW, hzr, HAv, HBv, Bw⟩ := hrel
      by_cases hlt : k < len0
      · by_cases hlt1 : k < 100
        · obtain ⟨ac, hac⟩ : ∃ ac, acs[k]? = some ac := ⟨_, List.getElem?_eq_getElem (by rw [HL.out]; exact hlt)⟩
          obtain ⟨e0, off0, rfl, x0, x1, x2⟩ := (HA.out.below (T6.below.trans (Bw.mono (Nat.le_of_lt (Nat.lt_trans (by omega) hlD))))).get hac
          obtain ⟨⟨hk0, hk2⟩, hxw, hiw⟩ := HO.out ac (List.mem_of_getElem? hac)
          obtain ⟨g, hg⟩ : ∃ g, wr.heap.size = g := ⟨_, rfl⟩
          obtain ⟨wz, hwz⟩ : ∃ w1, wr.alloc (.cells #[.int .u8 ac.kind, .int .i64 ac.x, .int .i64 ac.i] 42) = w1 := ⟨_, rfl⟩
          have hu : Upd (fun _ => False) wr wz := by rw [← hwz]; exact (Upd.refl _ wr).alloc _
          have hb1 : wz.heap[g]? = some (.cells #[.int .u8 ac.kind, .int .i64 ac.x, .int .i64 ac.i] 42 (0, 0)) := by rw [← hwz, ← hg]; exact heap_alloc_new wr _
          have TZ : St w6 wz ba bb va vb rm zs (zs.map ngp) g #[.int .u8 ac.kind, .int .i64 ac.x, .int .i64 ac.i] :=
            ⟨TW.upd hu, HAv, HBv, by rw [← hwz]; exact Bw.alloc Bw.size _, hb1⟩
          generalize hkx : ac.kind = kx at *
          generalize hxx : ac.x = xx at *
          generalize hix : ac.i = ii at *
          obtain ⟨y0, y1, y2⟩ := TZ.cell
          have hd100 : decide ((k : Int) < 100) = true := by simp; omega
          have hzl : zs.length ≤ 10000 := by omega
          have hml : (zs.map ngp).length = zs.length := List.length_map _
          have HML := Lib.hid hml
          clear hac hkx hxx hix hu TW HA9 HB8 B8 HAv HBv hb1 hml
          go_upto_block 6 with fail
          go_cut [15, 16, 17, 18] from 110 to 163 (fun s15 s16 s17 s18 wx => ∃ zs va vb, St w6 wx ba bb va vb rm zs (zs.map ngp) g #[.int .u8 kx, .int .i64 xx, .int .i64 ii] ∧ (zs.length : Int) ≤ rm)
          case first =>
            by_cases k3 : kx % 6 = 3
            · cases zs with
              | nil =>
                go_wp2_with fail
                refine (iPop_none ba va rm _ TZ.two.a hr0).mono ?_
                rintro e wA ⟨rfl, rfl⟩
                go_wp2_with fail
                refine (pPop_none bb vb rm _ TZ.two.b hr0).mono ?_
                rintro e wA ⟨rfl, hBA⟩
                have TA := TZ.upd (Upd.of_below hBA _)
                have FA := fun (o : Obj) => Lib.hid (TA.upd ((Upd.refl _ wA).alloc o))
                clear TZ TA hBA hwz y0 y1 y2
                go_wp2_with fail
                go_meet
                exact ⟨[], _, _, (FA _).out, hzr⟩
              | cons x t =>
                have hzl3 : (ngp x :: t.map ngp).length ≤ 10000 := by simp at hzl ⊢; omega
                have hzt : (t.length : Int) ≤ rm := by simp at hzr; omega
                go_wp2_with fail
                refine (iPop ba va rm x t _ TZ.two.a hr0).mono ?_
                rintro e wA ⟨rfl, vA, RA', UA, oA⟩
                have TA := TZ.a RA' UA (.inl oA)
                clear TZ RA' UA oA hwz y0 y1 y2
                go_wp2_with fail
                refine (pPop bb vb rm x (IntKind.i64.wrap (-x)) (t.map ngp) _ TA.two.b hr0 hzl3).mono ?_
                rintro e wB ⟨rfl, vB, RB', UB, oB⟩
                have TB := TA.b RB' UB (.inl oB)
                have FB := fun (o : Obj) => Lib.hid (TB.upd ((Upd.refl _ wB).alloc o))
                clear TA RB' UB oB TB hzl3
                go_wp2_with fail
                go_meet
                exact ⟨t, _, _, (FB _).out, hzt⟩
            · by_cases k4 : kx % 6 = 4
              · by_cases hin : 0 ≤ ii ∧ ii < (zs.length : Int)
                · obtain ⟨i, rfl⟩ := Int.eq_ofNat_of_zero_le hin.1
                  have hi : i < zs.length := by omega
                  have hi2 : i < (zs.map ngp).length := by rw [HML.out]; exact hi
                  have hzl2 : (zs.map ngp).length ≤ 10000 := by rw [HML.out]; exact hzl
                  have TD := TZ.upd ((Upd.refl (fun _ => False) wz).drew)
                  clear hin hwz y0 y1 y2
                  go_upto_region 30 with fail
                  go_region_held3 (fun w' => w'.cell? ⟨g, 0, none⟩ = some (.int .u8 kx) ∧ w'.cell? ⟨g, 1, none⟩ = some (.int .i64 xx) ∧ w'.cell? ⟨g, 2, none⟩ = some (.int .i64 i))
                    ((exact St.cell (by assumption)))
                    (first
                      | (go_at_call 20; refine (iDrop ba _ rm zs i _ (Two.a (St.two (by assumption))) hr0 hi).mono ?_; rintro e wA ⟨rfl, vA, RA', UA, oA⟩; have TN := St.a (by assumption) RA' UA (.inl oA); clear UA oA RA')
                      | (go_at_call 30; refine (pDrop bb _ rm (zs.map ngp) i _ (Two.b (St.two (by assumption))) hr0 hi2 hzl2).mono ?_; rintro e wB ⟨rfl, vB, RB', UB, oB⟩; have TN := St.b (by assumption) RB' UB (.inl oB); clear UB oB RB'))
                  all_goals
                    have hle := List.length_eraseIdx_le zs i
                    have hzr2 : ((zs.eraseIdx i).length : Int) ≤ rm := by omega
                    go_wp2_with fail
                    go_meet
                    exact ⟨zs.eraseIdx i, _, _, St.erase (by assumption), hzr2⟩
                · have hout : ii < 0 ∨ (zs.length : Int) ≤ ii := by omega
                  have HOUT := Lib.hid hout
                  have hout2 : Hid (ii < 0 ∨ ((zs.map ngp).length : Int) ≤ ii) := by rw [Hid, HML.out]; exact hout
                  have hzl2 : (zs.map ngp).length ≤ 10000 := by rw [HML.out]; exact hzl
                  have TD := TZ.upd ((Upd.refl (fun _ => False) wz).drew)
                  clear hin hwz y0 y1 y2 hout
                  go_upto_region 30 with fail
                  go_region_held3 (fun w' => w'.cell? ⟨g, 0, none⟩ = some (.int .u8 kx) ∧ w'.cell? ⟨g, 1, none⟩ = some (.int .i64 xx) ∧ w'.cell? ⟨g, 2, none⟩ = some (.int .i64 ii))
                    ((exact St.cell (by assumption)))
                    (first
                      | (go_at_call 20; refine (iDrop_out ba _ rm zs ii _ (Two.a (St.two (by assumption))) hr0 HOUT.out).mono ?_; rintro e wA ⟨rfl, rfl⟩)
                      | (go_at_call 30; refine (pDrop_out bb _ rm (zs.map ngp) ii _ (Two.b (St.two (by assumption))) hr0 hout2.out hzl2).mono ?_; rintro e wB ⟨rfl, hBB⟩; have TN := St.upd (by assumption) (Upd.of_below hBB (fun _ => False)); clear hBB))
                  all_goals
                    go_wp2_with fail
                    go_meet
                    exact ⟨zs, _, _, by assumption, hzr⟩
              · by_cases k5 : kx % 6 = 5
                · by_cases hin : 0 ≤ ii ∧ ii < (zs.length : Int)
                  · obtain ⟨i, rfl⟩ := Int.eq_ofNat_of_zero_le hin.1
                    have hi : i < zs.length := by omega
                    have hi2 : i < (zs.map ngp).length := by rw [HML.out]; exact hi
                    have hzl2 : (zs.map ngp).length ≤ 10000 := by rw [HML.out]; exact hzl
                    have TD := TZ.upd ((Upd.refl (fun _ => False) wz).drew)
                    clear hin hwz y0 y1 y2
                    go_upto_region 30 with fail
                    go_region_held3 (fun w' => w'.cell? ⟨g, 0, none⟩ = some (.int .u8 kx) ∧ w'.cell? ⟨g, 1, none⟩ = some (.int .i64 xx) ∧ w'.cell? ⟨g, 2, none⟩ = some (.int .i64 i))
                      ((exact St.cell (by assumption)))
                      (first
                        | (go_at_call 20; refine (iDrop ba _ rm zs i _ (Two.a (St.two (by assumption))) hr0 hi).mono ?_; rintro e wA ⟨rfl, vA, RA', UA, oA⟩; have TN := St.a (by assumption) RA' UA (.inl oA); clear UA oA RA')
                        | (go_at_call 30; refine (pDrop bb _ rm (zs.map ngp) i _ (Two.b (St.two (by assumption))) hr0 hi2 hzl2).mono ?_; rintro e wB ⟨rfl, vB, RB', UB, oB⟩; have TN := St.b (by assumption) RB' UB (.inl oB); clear UB oB RB'))
                    all_goals
                      have hle := List.length_eraseIdx_le zs i
                      have hzr2 : ((zs.eraseIdx i).length : Int) ≤ rm := by omega
                      go_wp2_with fail
                      go_meet
                      exact ⟨zs.eraseIdx i, _, _, St.erase (by assumption), hzr2⟩
                  · have hout : ii < 0 ∨ (zs.length : Int) ≤ ii := by omega
                    have HOUT := Lib.hid hout
                    have hout2 : Hid (ii < 0 ∨ ((zs.map ngp).length : Int) ≤ ii) := by rw [Hid, HML.out]; exact hout
                    have hzl2 : (zs.map ngp).length ≤ 10000 := by rw [HML.out]; exact hzl
                    have TD := TZ.upd ((Upd.refl (fun _ => False) wz).drew)
                    clear hin hwz y0 y1 y2 hout
                    go_upto_region 30 with fail
                    go_region_held3 (fun w' => w'.cell? ⟨g, 0, none⟩ = some (.int .u8 kx) ∧ w'.cell? ⟨g, 1, none⟩ = some (.int .i64 xx) ∧ w'.cell? ⟨g, 2, none⟩ = some (.int .i64 ii))
                      ((exact St.cell (by assumption)))
                      (first
                        | (go_at_call 20; refine (iDrop_out ba _ rm zs ii _ (Two.a (St.two (by assumption))) hr0 HOUT.out).mono ?_; rintro e wA ⟨rfl, rfl⟩)
                        | (go_at_call 30; refine (pDrop_out bb _ rm (zs.map ngp) ii _ (Two.b (St.two (by assumption))) hr0 hout2.out hzl2).mono ?_; rintro e wB ⟨rfl, hBB⟩; have TN := St.upd (by assumption) (Upd.of_below hBB (fun _ => False)); clear hBB))
                    all_goals
                      go_wp2_with fail
                      go_meet
                      exact ⟨zs, _, _, by assumption, hzr⟩
                · have hzl2 : (zs.map ngp).length ≤ 10000 := by rw [HML.out]; exact hzl
                  have TD := TZ.upd ((Upd.refl (fun _ => False) wz).drew)
                  by_cases hf : (zs.length : Int) < rm
                  · have hf2 : Hid (((zs.map ngp).length : Int) < rm) := by rw [Hid, HML.out]; exact hf
                    clear hwz y0 y1 y2
                    go_upto_region 21 with fail
                    go_region_held3 (fun w' => w'.cell? ⟨g, 0, none⟩ = some (.int .u8 kx) ∧ w'.cell? ⟨g, 1, none⟩ = some (.int .i64 xx) ∧ w'.cell? ⟨g, 2, none⟩ = some (.int .i64 ii))
                      ((exact St.cell (by assumption)))
                      (first
                        | (go_at_call 11; refine (iPush ba _ rm zs xx _ (Two.a (St.two (by assumption))) hr0 (by omega) hf).mono ?_; rintro e wA ⟨rfl, vA, RA', UA, oA⟩; have TN := St.a (by assumption) RA' UA oA; clear UA oA RA')
                        | (go_at_call 31; refine (pPush bb _ rm (zs.map ngp) xx (IntKind.i64.wrap (-xx)) _ (Two.b (St.two (by assumption))) hr0 (by omega) hf2.out).mono ?_; rintro e wB ⟨rfl, vB, RB', UB, oB⟩; have TN := St.b (by assumption) RB' UB oB; clear UB oB RB'))
                    all_goals
                      have hzr2 : ((zs ++ [xx]).length : Int) ≤ rm := by simp; omega
                      go_wp2_with fail
                      go_meet
                      exact ⟨zs ++ [xx], _, _, St.push (by assumption), hzr2⟩
                  · have hf1 : rm ≤ (zs.length : Int) := by omega
                    have hf2 : Hid (rm ≤ ((zs.map ngp).length : Int)) := by rw [Hid, HML.out]; exact hf1
                    clear hf hwz y0 y1 y2
                    go_upto_region 21 with fail
                    go_region_held3 (fun w' => w'.cell? ⟨g, 0, none⟩ = some (.int .u8 kx) ∧ w'.cell? ⟨g, 1, none⟩ = some (.int .i64 xx) ∧ w'.cell? ⟨g, 2, none⟩ = some (.int .i64 ii))
                      ((exact St.cell (by assumption)))
                      (first
                        | (go_at_call 11; refine (iPush_full ba _ rm zs xx _ (Two.a (St.two (by assumption))) hr0 hf1).mono ?_; rintro e wA ⟨rfl, UA⟩; have TN := St.upd (by assumption) UA; clear UA)
                        | (go_at_call 31; refine (pPush_full bb _ rm (zs.map ngp) xx (IntKind.i64.wrap (-xx)) _ (Two.b (St.two (by assumption))) hr0 hf2.out).mono ?_; rintro e wB ⟨rfl, hBB⟩; have TN := St.upd (by assumption) (Upd.of_below hBB (fun _ => False)); clear hBB))
                    all_goals
                      go_wp2_with fail
                      go_meet
                      exact ⟨zs, _, _, by assumption, hzr⟩
          case rest =>
            obtain ⟨zs', va', vb', TA, hzr'⟩ := hcut
            have hml' : (zs'.map ngp).length = zs'.length := List.length_map _
            have HML' := Lib.hid hml'
            clear TZ hml' hwz y0 y1 y2
            go_wp2_with fail
            refine (len_is ba va' rm _ _ _ TA.two.a hr0).mono ?_
            rintro e wq ⟨rfl, rfl⟩
            go_wp2_with fail
            refine (pLen bb vb' rm _ _ TA.two.b hr0).mono ?_
            rintro e wq ⟨rfl, rfl⟩
            rw [HML'.out]
            go_wp2_with fail
            go_roundw
            case rel => exact ⟨k + 1, zs', va', vb', by omega, by omega, by go_num, TA.two, hzr', TA.ha, TA.hb, TA.below⟩
            case measure => simp [intOf]; omega
        · have K6w := (Bw.block _ hlD).trans K6
          have Kw6w := (Bw.block _ hlE).trans hKw6
          have brw := (Bw.block _ (by omega)).trans T6.br
          have cw := blk_cell brw 0
          have fw := blk_frozen brw 0
          have Bww : Below w.heap.size w wr := T6.below.trans (Bw.mono (by omega))
          simp at cw
          go_wp2_with fail
          exact types_end rfl brw K6w Kw6w (by omega) hDE Bww
      · have K6w := (Bw.block _ hlD).trans K6
        have Kw6w := (Bw.block _ hlE).trans hKw6
        have brw := (Bw.block _ (by omega)).trans T6.br
        have cw := blk_cell brw 0
        have fw := blk_frozen brw 0
        have Bww : Below w.heap.size w wr := T6.below.trans (Bw.mono (by omega))
        simp at cw
        go_wp2_with fail
        exact types_end rfl brw K6w Kw6w (by omega) hDE Bww

end Go.Proofs.Ythehhnlkpcfofaa
