/-
  slices.Values and slices.Clone on a row of int64; All's iterator.
-/
import Derived.Test.YthehhnlkpcfofaaS
import Derived.Test.YthehhnlkpcfofaaB
import Derived.Lib.Walk
import Derived.Lib.SliceRun
namespace Go.Proofs.Ythehhnlkpcfofaa
open Go.RowKit Go.Shelf
set_option linter.unusedVariables false
set_option linter.unusedSimpArgs false

attribute [local go_sem] Oper.semAt_some

/-- The slice value sv has the ints zs, in a block of S; or it is nil and there are none. -/
def SRow (S : Nat → Prop) (W : World) (sv : Value) (zs : List Int) : Prop :=
  (sv = .slice none 0 0 ∧ zs = []) ∨ ∃ b off cap, sv = .slice (some ⟨b, off, none⟩) zs.length cap ∧ S b ∧ ∀ (j : Nat) (x : Int), zs[j]? = some x → W.cell? ⟨b, off + j, none⟩ = some (.int .i64 x)
theorem SRow.keeps {S : Nat → Prop} {A B : World} (h : Keeps S A B) {sv : Value} {zs : List Int} : SRow S A sv zs → SRow S B sv zs
  | .inl e => .inl e
  | .inr ⟨b, off, cap, e, hb, hc⟩ => .inr ⟨b, off, cap, e, hb, fun j x hj => h.cell (hc j x hj) hb⟩

theorem take_snoc1 (zs : List Int) (k : Nat) (x : Int) (h : zs[k]? = some x) : zs.take k ++ [x] = zs.take (k + 1) := by
  rw [List.take_add_one, h]; rfl
theorem take_pre (zs : List Int) (k : Nat) : zs.take k <+: zs := List.take_prefix _ _

set_option maxRecDepth 100000 in
set_option maxHeartbeats 2000000 in
theorem values1_U (F : Fence) (n : Nat) (h46 : F.fn 46) (hro : F.round = none) (hn : 1 ≤ n) (Bs : Nat) (S : Nat → Prop) (hSB : S Bs) (sv : Value) (zs : List Int) (hreach : zs.length * 8 ≤ 140737488351232) (w : World)
    (hBs : w.cell? ⟨Bs, 0, none⟩ = some sv) (hI : SRow S w sv zs) :
    SeqU F n Try.prog 46 #[.pointer (some ⟨Bs, 0, none⟩)] (fun x : Int => #[Value.int .i64 x]) S 0 zs w := fun l J Jx W hW hJ hJx hY h0 => by
  have hBs' := hW.cell hBs hSB
  replace hI := SRow.keeps hW hI
  rcases hI with ⟨rfl, rfl⟩ | ⟨b, off, cap, rfl, hb, hcs⟩
  · refine callsIn_of_wp Try.func46 rfl h46 ?_ hro
    simp only [Try.ntmps46, List.size_toArray, List.length_cons, List.length_nil, Nat.reduceAdd, Nat.reduceSub, Array.replicate_succ, Array.replicate_zero, List.push_toArray, List.append_toArray, List.nil_append, List.cons_append]
    gi_wp2
    gi_loopw [7] (fun i wr => i = .int .i64 0 ∧ J [] wr) (fun _ _ => 0)
    case atStart => exact ⟨rfl, h0⟩
    case round =>
      obtain ⟨rfl, hJs⟩ := hrel
      gi_wp2
      go_end0
      exact ⟨⟨_, rfl⟩, .inl hJs⟩
  · have HC := Lib.hid hcs
    clear hcs
    refine callsIn_of_wp Try.func46 rfl h46 ?_ hro
    simp only [Try.ntmps46, List.size_toArray, List.length_cons, List.length_nil, Nat.reduceAdd, Nat.reduceSub, Array.replicate_succ, Array.replicate_zero, List.push_toArray, List.append_toArray, List.nil_append, List.cons_append]
    gi_wp2
    gi_loopw [7] (fun i wr => ∃ k : Nat, k ≤ zs.length ∧ i = .int .i64 k ∧ J (zs.take k) wr ∧ Keeps S W wr)
      (fun i _ => zs.length - (intOf i).toNat)
    case atStart => exact ⟨0, Nat.zero_le _, rfl, h0, Keeps.refl _ _⟩
    case round =>
      obtain ⟨k, hk, rfl, hJs, hnx⟩ := hrel
      by_cases hlt : k < zs.length
      · obtain ⟨x, hx⟩ : ∃ x, zs[k]? = some x := ⟨_, List.getElem?_eq_getElem hlt⟩
        have hcx := hnx.cell (HC.out k x hx) hb
        obtain ⟨fn, tmps, assign, body, hy, hR⟩ := hY _ x wr hJs (by rw [take_snoc1 zs k x hx]; exact take_pre _ _) hnx.size
        have HX := Lib.hid (take_snoc1 zs k x hx)
        clear hx
        gi_wp2
        refine hR.mono ?_
        rintro e W3 ⟨hk3, ⟨rfl, hJ3⟩ | ⟨rfl, hJx3⟩⟩
        · gi_wp2
          go_roundw
          case rel => exact ⟨k + 1, by omega, by simp, by rw [← HX.out]; exact hJ3, hnx.trans (hk3.mono fun _ _ h => .inl h)⟩
          case measure => simp [intOf]; omega
        · gi_wp2
          refine bodyPost_ret (results_none rfl _ _ _) rfl ?_
          exact ⟨⟨_, rfl⟩, .inr ⟨_, by rw [HX.out]; exact take_pre _ _, hJx3⟩⟩
      · obtain rfl : k = zs.length := by omega
        rw [List.take_length] at hJs
        gi_wp2
        go_end0
        exact ⟨⟨_, rfl⟩, .inl hJs⟩

set_option maxHeartbeats 1000000 in
/-- slices.Values: the slice value is boxed; the function value captures the box. -/
theorem values_in (F : Fence) (n : Nat) (h37 : F.fn 37) (hro : F.round = none) (a : Option Addr) (len cap : Nat) (w : World) :
    CallsIn F n Try.prog 37 #[.slice a len cap] w fun e w' => e = .returned (.func (.func 46) #[] #[.pointer (some ⟨w.heap.size, 0, none⟩)]) ∧ w' = w.alloc (.cells #[.slice a len cap] 22) := by
  refine callsIn_of_wp Try.func37 rfl h37 ?_ hro
  simp only [Try.ntmps37, List.size_toArray, List.length_cons, List.length_nil, Nat.reduceAdd, Nat.reduceSub, Array.replicate_succ, Array.replicate_zero, List.push_toArray, List.append_toArray, List.nil_append, List.cons_append]
  gi_wp2
  go_ret
  exact ⟨rfl, rfl⟩

theorem SRow.slice {S : Nat → Prop} {W : World} {sv : Value} {zs : List Int} (h : SRow S W sv zs) : ∃ a c, sv = .slice a zs.length c := by
  rcases h with ⟨rfl, rfl⟩ | ⟨b, off, cap, rfl, _⟩
  · exact ⟨_, _, rfl⟩
  · exact ⟨_, _, rfl⟩

theorem cell_new (W : World) (v : Value) (t : TypeId) : (W.alloc (.cells #[v] t)).cell? ⟨W.heap.size, 0, none⟩ = some v :=
  blk_cell (World.alloc_heap_new W _) 0

theorem RoundIn.anyDepth {F : Fence} {n m : Nat} {P : Program} {l : Nat} {f : FuncId} {tmps : Array Value} {assign body : Code} {w : World} {R : Ending → World → Prop} (hd : F.depth = none) (h : RoundIn F n P l f tmps assign body w R) : RoundIn F m P l f tmps assign body w R :=
  ⟨h.1, fun c cs _ => h.2 c cs (fun d e => by rw [hd] at e; cases e)⟩

set_option maxRecDepth 100000 in
set_option maxHeartbeats 2000000 in
/-- **All's iterator** ('for x := range slices.Values(l) { if !yield(x) { return } }'). -/
theorem all1_U (F : Fence) (n : Nat) (h36 : F.fn 36) (h37 : F.fn 37) (h46 : F.fn 46) (hro : F.round = none) (hd : F.depth = none) (hn : 3 ≤ n) (Bs : Nat) (S : Nat → Prop) (hSB : S Bs) (sv : Value) (zs : List Int) (hreach : zs.length * 8 ≤ 140737488351232) (w : World)
    (hSl : ∀ k, S k → k < w.heap.size) (hBs : w.cell? ⟨Bs, 0, none⟩ = some sv) (hI : SRow S w sv zs) :
    SeqU F n Try.prog 36 #[.pointer (some ⟨Bs, 0, none⟩)] (fun x : Int => #[Value.int .i64 x]) S 4 zs w := fun l J Jx W hW hJ hJx hY h0 => by
  have h1 : 1 ≤ n := by omega
  have hBs' := hW.cell hBs hSB
  replace hI := SRow.keeps hW hI
  have hSl' : ∀ k, S k → k < W.heap.size := fun k hk => Nat.lt_of_lt_of_le (hSl k hk) hW.size
  have hBl := hSl' Bs hSB
  obtain ⟨a0, c0, rfl⟩ := hI.slice
  refine callsIn_of_wp_marks Try.func36 rfl h36 ?_ hro
  simp only [Try.ntmps36, List.size_toArray, List.length_cons, List.length_nil, Nat.reduceAdd, Nat.reduceSub, Array.replicate_succ, Array.replicate_zero, List.push_toArray, List.append_toArray, List.nil_append, List.cons_append]
  gi_wp2_with (gi_at_call 37; refine (values_in F (n - 1) h37 hro _ _ _ _).mono ?_; rintro e w' ⟨rfl, rfl⟩)
  obtain ⟨w2, hw2⟩ : ∃ w2, ((W.alloc (.cells #[.func (.yield l) #[] #[]] 75)).alloc (.cells #[.slice a0 zs.length c0] 22)) = w2 := ⟨_, rfl⟩
  have hz2 : w2.heap.size = W.heap.size + 2 := by rw [← hw2]; simp
  have hU2 : Upd (fun _ => False) W w2 := by rw [← hw2]; exact ((Upd.refl _ W).alloc _).alloc _
  have hy2 : w2.heap[W.heap.size]? = some (.cells #[.func (.yield l) #[] #[]] 75) := by rw [← hw2]; exact blk_alloc (World.alloc_heap_new W _) _
  have hv2 : w2.cell? ⟨W.heap.size + 1, 0, none⟩ = some (.slice a0 zs.length c0) := by
    rw [← hw2]; have := cell_new (W.alloc (.cells #[.func (.yield l) #[] #[]] 75)) (.slice a0 zs.length c0) 22; rwa [World.size_alloc] at this
  rw [hw2]
  have hI2 : SRow (fun k => k = W.heap.size + 1 ∨ S k) w2 (.slice a0 zs.length c0) zs := by
    have := SRow.keeps (Keeps.of_upd (S := S) hU2 (fun _ _ _ h => h)) hI
    rcases this with h | ⟨b, off, cap, e, hb, hc⟩
    · exact .inl h
    · exact .inr ⟨b, off, cap, e, .inr hb, hc⟩
  refine wpIn_rangeFunc_U hro h1 (gf := 46) (lb := #[.pointer (some ⟨W.heap.size + 1, 0, none⟩)]) rfl h46 (enters_of Try.func46 (by kernel_rfl) rfl)
    (values1_U F (n - 1) h46 hro (by omega) (W.heap.size + 1) (fun k => k = W.heap.size + 1 ∨ S k) (.inl rfl) _ zs hreach w2 hv2 hI2) (Keeps.refl _ _) ?hS0 (fun _ => rfl)
    (fun pre A => J pre A ∧ A.heap[W.heap.size]? = some (.cells #[.func (.yield l) #[] #[]] 75)) (fun c pre A => c = .ret ∧ Jx pre A ∧ pre <+: zs)
    ?hI ?hIx ⟨hJ _ _ _ h0 (hU2.mono fun _ _ h => h.elim), hy2⟩
    (fun x => { tmps := #[.func (.yield l) #[] #[], .pointer (some ⟨Bs, 0, none⟩), .pointer (some ⟨W.heap.size, 0, none⟩), .int .i64 x, .slice a0 zs.length c0, .func (.func 46) #[] #[.pointer (some ⟨W.heap.size + 1, 0, none⟩)], .int .i64 x, undef, undef, undef, undef], defers := [] }) ?assign ?body ?done ?stop
  case hS0 =>
    rintro k (rfl | h)
    · omega
    · have := hSl' k h; omega
  case hI =>
    rintro s A A' ⟨hs, hb⟩ hu
    rw [hz2] at hu
    exact ⟨hJ _ _ _ hs (hu.mono fun k _ h => ⟨by have := h.1; omega, by have := h.2; omega⟩), hu.heap hb (fun h => by have := h.1; omega)⟩
  case hIx =>
    rintro c s A A' ⟨hc, hs, hp⟩ hu
    rw [hz2] at hu
    exact ⟨hc, hJx _ _ _ hs (hu.mono fun k _ h => ⟨by have := h.1; omega, by have := h.2; omega⟩), hp⟩
  case assign =>
    intro l2 x A K hK
    gi_wp2
    exact hK
  case body =>
    rintro l2 pre x A ⟨hj, hb⟩ hpre hsz
    rw [hz2] at hsz
    have hcy := blk_cell hb 0
    obtain ⟨fn, tmps, assign, body, hy, hR⟩ := hY pre x A hj hpre (by omega)
    have hsub : ∀ k, ((k = W.heap.size + 1 ∨ S k) ∨ Mine w2.heap.size (0 + 2) k) → (S k ∨ Mine W.heap.size 4 k) := by
      rintro k ((rfl | h) | h)
      · exact .inr ⟨by omega, by omega⟩
      · exact .inl h
      · rw [hz2] at h; exact .inr ⟨by have := h.1; omega, by have := h.2; omega⟩
    simp at hcy
    gi_wp2
    refine RoundIn.mono (RoundIn.anyDepth (F := F.inRound l2) hd hR) ?_
    rintro e W' ⟨hk, ⟨rfl, hj'⟩ | ⟨rfl, hj'⟩⟩
    · gi_wp2
      exact ⟨hk.mono (fun k _ h => hsub k h), hj', hk.heap hb (.inr ⟨by omega, by omega⟩)⟩
    · gi_wp2
      exact ⟨hk.mono (fun k _ h => hsub k h), rfl, hj', hpre⟩
  case done =>
    rintro A ⟨hj, hb⟩ hK
    rw [hz2] at hK ⊢
    gi_wp2
    refine ⟨by simp, .inl ⟨_, _, rfl, run_takeDeferred hK, ?_⟩⟩
    exact ⟨_, results_none rfl _ _ _, ⟨_, rfl⟩, .inl (hJ _ _ _ hj ((Upd.refl _ A).putObj _ _ (fun _ => ⟨by omega, by omega⟩)))⟩
  case stop =>
    rintro c pre A hp ⟨rfl, hj, _⟩ hK
    rw [hz2] at hK ⊢
    gi_wp2
    refine ⟨by simp, .inl ⟨_, _, rfl, run_takeDeferred hK, ?_⟩⟩
    exact ⟨_, results_none rfl _ _ _, ⟨_, rfl⟩, .inr ⟨_, hp, hJx _ _ _ hj ((Upd.refl _ A).putObj _ _ (fun _ => ⟨by omega, by omega⟩))⟩⟩


theorem Try.noE (w : World) (a : Option Addr) (n c : Nat) : (binOp .eql 22 (.slice a n c) (.slice none 0 0)).run Try.prog w = .ok (.bool a.isNone) w := Lib.run_eql_slice_nil w _ _ a n c 0 0 Try.underlying22

set_option maxHeartbeats 1000000 in
/-- slices.Clone of an owned row: a row of its own, of the same cells; nil of nil. -/
theorem clone_in (base : Nat) (v : Value) (zs : List Int) (hreach : zs.length * 8 ≤ 140737488351232) (w : World) (hown : w.ownsRow base 2 1 v zs.length (cellsOf enc1 zs)) :
    Calls Try.prog 35 #[v] w fun e w' => ∃ v', e = .returned v' ∧ w'.ownsRow w.heap.size 2 1 v' zs.length (cellsOf enc1 zs) ∧ Below w.heap.size w w' := by
  obtain ⟨i0, hi0, hz0, hz1, hz2⟩ := info_parts Try.infoE
  have hq := Try.noE
  rcases hown.2 with ⟨rfl, h0⟩ | ⟨g, cap, cur, rfl, hb, hcur, hnc, hcm, hsz, htake⟩
  · rw [h0] at hown ⊢
    have HO := Lib.hid hown
    clear hown
    go_enter Try.func35, Try.ntmps35
    go_wp2
    go_ret
    have : cellsOf enc1 zs = [] := by rw [List.length_eq_zero_iff.1 h0]; rfl
    exact ⟨_, rfl, by rw [this]; exact World.ownsRow_nil _ _ _ _, Below.refl _ _⟩
  · have hcells : ∀ j u, (cellsOf enc1 zs)[j]? = some u → w.cell? ⟨g, j, none⟩ = some u := by
      intro j u hu
      have hj : j < zs.length * 1 := by have := (List.getElem?_eq_some_iff.1 hu).1; rwa [cellsOf_length enc1 1 enc1_len] at this
      rw [blk_cell hcur, ← hu, ← htake, List.getElem?_take, if_pos hj]
      simp
    have HC := Lib.hid hcells
    have HL : Hid ((cellsOf enc1 zs).length = zs.length * 1) := cellsOf_length enc1 1 enc1_len zs
    have H1 : Hid (∀ u ∈ cellsOf enc1 zs, u.oneCell' = true) := enc1_one zs
    clear hcells htake hown
    simp only [maxLen] at hcm
    go_enter Try.func35, Try.ntmps35
    go_wp2_with (at_builtin; refine wpList_append_own _ rfl _ _ 22 rfl w.heap.size 2 i0 (.int .i64 0) 1 8 Try.underlying22 hi0 hz0 hz1 hz2 rfl (by decide) _ _ _ rfl (World.ownsRow_made w #[] 0 (Nat.le_refl _) (Nat.zero_le _) rfl) ⟨g, 0, none⟩ zs.length cap (cellsOf enc1 zs) rfl ?qc1 ?qc2 ?qc3 ?qc4 ?qc5 ?qc6 ?_)
    case qc1 => exact HL.out
    case qc2 =>
      intro j u hj
      rw [Addr.add_lit]
      refine Lib.cell?_alloc_some _ ?_
      rw [Nat.zero_add]
      exact HC.out j u hj
    case qc3 => exact H1.out
    case qc4 => unfold maxLen; omega
    case qc5 => omega
    case qc6 => simp
    intro v' w1 hown hgrow hnil
    go_wp2
    go_ret
    refine ⟨v', rfl, by simpa using hown, ?_⟩
    exact ((Below.refl _ w).alloc (Nat.le_refl _) _).grown hgrow (by simp) (by intro k hk; simp [Value.ownBlock] at hk; omega)

end Go.Proofs.Ythehhnlkpcfofaa
