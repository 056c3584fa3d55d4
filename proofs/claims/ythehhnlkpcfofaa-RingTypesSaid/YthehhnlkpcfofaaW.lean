/-
  All; same.
-/
import Derived.Test.YthehhnlkpcfofaaV
import Derived.StillTailTactics
import Derived.Deep.RegionHeld3
namespace Go.Proofs.Ythehhnlkpcfofaa
open Go.RowKit Go.Shelf
set_option linter.unusedVariables false
set_option linter.unusedSimpArgs false

attribute [local go_sem] Oper.semAt_some

theorem calls_marks {P : Program} {f : FuncId} {fn : Func} {c : Code} {args : Array Value} {w : World} {R : Ending → World → Prop}
    (hf : P.funcs[f]? = some fn) (hb : fn.body = some c) (h : c.wp P (bodyPostM Fence.wide 9 P fn R) { tmps := args ++ Array.replicate (fn.ntmps - args.size) undef, defers := [] } w) : Calls P f args w R :=
  callsIn_wide.1 (callsIn_of_wp_marks (n := 9) hf hb trivial (wpIn_wide.2 h) rfl)

/-- A region that draws: reads and quiet calls ahead of a forced tail; the world behind the draw under a name of its own. -/
theorem region_still_at {P : Program} {id : Nat} {Q : Exit → Act → World → Prop} {a : Act} {w : World} {l : List Oper} (n : Nat) (hm : P.follows .mixedOrders = true) (hB : Region.lexTailB .any l.toArray n = true)
    (h : ∀ w2, w2 = w.drew → wpStill P l.toArray w2 (fun a' => wpList P l.toArray Q (l.drop n) a' w2) (l.take n) a) : (Code.region id l.toArray true).wp P Q a w :=
  wp_region_still_tail n hm hB (h _ rfl)

/-- The law in a plain walk. -/
theorem wp_rangeFunc_U {P : Program} {α : Type} {g : Operand} {ps : Array Tmp} {assign body : Code} {Q : Exit → Act → World → Prop} {a : Act} {w : World}
    {gf : Nat} {lb : Array Value} (hg : a.eval g = .func (.func gf) #[] lb) (eg : ∀ args w, (callFunc gf args).run P w = .ok (.enter gf args) w)
    {encs : α → Array Value} {S : Nat → Prop} {m : Nat} {zs : List α} {w0 : World} (hseq : SeqU Fence.wide 8 P gf lb encs S m zs w0)
    (hw : Keeps S w0 w) (hS0 : ∀ k, S k → k < w0.heap.size) (hps : ∀ x, (encs x).size = ps.size)
    (I : List α → World → Prop) (Ix : Code → List α → World → Prop)
    (hI : ∀ s A A', I s A → Upd (Mine w.heap.size (m + 2)) A A' → I s A') (hIx : ∀ c s A A', Ix c s A → Upd (Mine w.heap.size (m + 2)) A A' → Ix c s A') (h0 : I [] w) (a₁ : α → Act)
    (hassign : ∀ (l : Nat) (x : α) (W : World) (K : Act → World → Prop), K (a₁ x) W →
      assign.wpIn (Fence.wide.inRound l) 7 P (Exit.then K (fun _ _ _ => False)) { tmps := (ps.zip (encs x)).foldl (fun t (p, v) => t.setIfInBounds p v) a.tmps, defers := [] } W)
    (hbody : ∀ (l : Nat) (pre : List α) (x : α) (W : World), I pre W → pre ++ [x] <+: zs → w.heap.size + (m + 2) ≤ W.heap.size →
      body.wpIn (Fence.wide.inRound l) 7 P (postU (fun k => S k ∨ Mine w.heap.size (m + 2) k) I Ix (pre ++ [x]) W) (a₁ x) W)
    (hdone : ∀ (W : World), I zs W → W.heap[w.heap.size]? = some (.deferred (some [])) → Q .normal { a with defers := { target := .collected w.heap.size, args := #[] } :: a.defers } W)
    (hstop : ∀ (c : Code) (pre : List α) (W : World), pre <+: zs → Ix c pre W → W.heap[w.heap.size]? = some (.deferred (some [])) → c.wp P Q { a with defers := { target := .collected w.heap.size, args := #[] } :: a.defers } W) :
    (Code.rangeFunc g ps assign body).wp P Q a w :=
  (wpIn_wide (n := 9)).1 (wpIn_rangeFunc_U (n := 9) rfl (by omega) hg trivial eg hseq hw hS0 hps I Ix hI hIx h0 a₁ hassign hbody hdone (fun c pre W h1 h2 h3 => wpIn_wide.2 (hstop c pre W h1 h2 h3)))

theorem srow_of_own {S : Nat → Prop} {base : Nat} {w : World} {v : Value} {zs : List Int} (h : w.ownsRow base 2 1 v zs.length (cellsOf enc1 zs)) (hS : ∀ k, v.ownBlock = some k → S k) : SRow S w v zs := by
  rcases h.2 with ⟨rfl, h0⟩ | ⟨g, cap, cur, rfl, hb, hcur, hnc, hcm, hsz, htake⟩
  · exact .inl ⟨rfl, List.length_eq_zero_iff.1 h0⟩
  · refine .inr ⟨g, 0, cap, rfl, hS g rfl, fun j x hx => ?_⟩
    have hj : j < zs.length * 1 := by have := (List.getElem?_eq_some_iff.1 hx).1; omega
    have := cellsOf_at enc1 1 enc1_len zs j 0 x hx (by omega)
    rw [blk_cell hcur, Nat.zero_add]
    rw [← htake, List.getElem?_take, if_pos (by omega)] at this
    simpa [enc1] using this

/-- What All gives: a function value that captures a box; box and row lie in S, blocks laid by the call. -/
def AllPost (zs : List Int) (w : World) (e : Ending) (w' : World) : Prop :=
  ∃ (Bs : Nat) (sv : Value) (S : Nat → Prop), e = .returned (.func (.func 36) #[] #[.pointer (some ⟨Bs, 0, none⟩)]) ∧ Below w.heap.size w w' ∧ S Bs ∧ (∀ k, S k → w.heap.size ≤ k ∧ k < w'.heap.size) ∧ w'.cell? ⟨Bs, 0, none⟩ = some sv ∧ SRow S w' sv zs

set_option maxHeartbeats 1000000 in
theorem all_in (b : Nat) (v : Value) (room : Int) (zs : List Int) (hreach : zs.length * 8 ≤ 140737488351232) (w : World) (h : RI w b v room zs) (hr : 0 < room) :
    Calls Try.prog 14 #[.pointer (some ⟨b, 0, none⟩)] w (AllPost zs w) := by
  obtain ⟨a, c, rfl, hnc, hcm⟩ := h.slice
  have hA : RI (w.alloc (.cells #[.slice none 0 0] 22)) b (.slice a zs.length c) room zs := h.upd (S := fun _ => False) ((Upd.refl _ w).alloc _) (fun _ _ h => h)
  have h1 := hA.c1
  have h0 := h.c0
  have hlt := lt_of_heap h.1
  have HC := Lib.hid (clone_in 0 _ zs hreach (w.alloc (.cells #[.slice none 0 0] 22)) hA.2)
  clear h hA
  go_enter Try.func14, Try.ntmps14
  go_wp2_with fail
  refine (good_yes _ _ hr _ h1).mono ?_
  rintro e w' ⟨rfl, rfl⟩
  go_wp2_with fail
  refine HC.out.mono ?_
  rintro e w1 ⟨v', rfl, hown, hB⟩
  simp only [World.size_alloc] at hown hB
  have hbx : w1.heap[w.heap.size]? = some (.cells #[.slice none 0 0] 22 (0, 0)) := (hB.block _ (by omega)).trans (World.alloc_heap_new w _)
  have hne := own_block_ne hown hbx (by decide)
  have k0 := blk_cell hbx 0
  have f0 := blk_frozen hbx 0
  simp at k0
  have hv : ∃ a c, v' = .slice a zs.length c := by
    rcases hown.2 with ⟨rfl, h0⟩ | ⟨g, cap, cur, rfl, _⟩
    · exact ⟨none, 0, by rw [h0]⟩
    · exact ⟨_, _, rfl⟩
  obtain ⟨a', c', rfl⟩ := hv
  go_wp2
  go_ret
  have hs := blk_set hbx 0 (.slice a' zs.length c')
  have hlt1 := lt_of_heap hbx
  refine ⟨w.heap.size, .slice a' zs.length c', fun k => k = w.heap.size ∨ (Value.slice a' zs.length c').ownBlock = some k, rfl, ?_, .inl rfl, ?_, ?_, ?_⟩
  · exact (((Below.refl _ w).alloc (Nat.le_refl _) _).trans (hB.mono (by omega))).setCell (by simp) _
  · rintro k (rfl | hk)
    · exact ⟨Nat.le_refl _, by simp [World.setCell]; exact hlt1⟩
    · have := hown.lt k hk
      exact ⟨by omega, by simp [World.setCell]; omega⟩
  · rw [blk_cell hs]; rfl
  · exact srow_of_own (ownsRow_setCell_far hown _ _ hne) (fun k hk => .inr hk)

end Go.Proofs.Ythehhnlkpcfofaa
