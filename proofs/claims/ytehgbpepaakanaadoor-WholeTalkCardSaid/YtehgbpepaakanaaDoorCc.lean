/-
  The law of a range over a function whose iterator lays blocks of its own and ranges over another iterator: both sides say which blocks they keep.
-/
import Derived.RangeFuncBox
import Derived.RangeFuncNested
import Derived.RangeFuncBound
import Derived.RangeFuncCalls
import Derived.RangeFuncLeaves
import Derived.Shelf.Abstract
import Derived.WalkKit
import Derived.OwnWalkIn
import Derived.TacticsInMore
import Derived.LoopNIn
import Derived.LoopIn
import Derived.Test.YtehgbpepaakanaaDoorK
namespace Go.Proofs.YtehgbpepaakanaaDoor
open Go.RowKit Go.Shelf
set_option linter.unusedVariables false
set_option maxRecDepth 20000
set_option linter.unusedSimpArgs false

/-- The m blocks from B on. -/
def Mine (B m : Nat) : Nat → Prop := fun k => B ≤ k ∧ k < B + m

/-- The blocks in S lie as they lay. -/
structure Keeps (S : Nat → Prop) (A B : World) : Prop where
  size : A.heap.size ≤ B.heap.size
  same : ∀ k, k < A.heap.size → S k → B.heap[k]? = A.heap[k]?

theorem Keeps.refl (S : Nat → Prop) (A : World) : Keeps S A A := ⟨Nat.le_refl _, fun _ _ _ => rfl⟩
theorem Keeps.trans {S : Nat → Prop} {A B C : World} (h : Keeps S A B) (k : Keeps S B C) : Keeps S A C :=
  ⟨Nat.le_trans h.size k.size, fun i hi hs => (k.same i (Nat.lt_of_lt_of_le hi h.size) hs).trans (h.same i hi hs)⟩
theorem Keeps.mono {S T : Nat → Prop} {A B : World} (h : Keeps S A B) (hs : ∀ k, k < A.heap.size → T k → S k) : Keeps T A B :=
  ⟨h.size, fun i hi ht => h.same i hi (hs i hi ht)⟩
theorem Keeps.of_upd {S T : Nat → Prop} {A B : World} (h : Upd T A B) (hs : ∀ k, k < A.heap.size → S k → ¬ T k) : Keeps S A B :=
  ⟨h.size, fun i hi ht => h.block i hi (hs i hi ht)⟩
theorem Keeps.heap {S : Nat → Prop} {A B : World} (h : Keeps S A B) {k : Nat} {o : Obj} (hk : A.heap[k]? = some o) (hs : S k) : B.heap[k]? = some o :=
  (h.same k (lt_of_heap hk) hs).trans hk
theorem cell?_of_heap {A B : World} {p : Addr} (h : B.heap[p.block]? = A.heap[p.block]?) : B.cell? p = A.cell? p := by simp only [World.cell?, h]
theorem frozen?_of_heap {A B : World} {p : Addr} (h : B.heap[p.block]? = A.heap[p.block]?) : B.frozen? p = A.frozen? p := by simp only [World.frozen?, h]
theorem Keeps.cell {S : Nat → Prop} {A B : World} (h : Keeps S A B) {p : Addr} {v : Value} (hk : A.cell? p = some v) (hs : S p.block) : B.cell? p = some v :=
  (cell?_of_heap (h.same _ (World.block_lt_of_cell? A _ hk) hs)).trans hk
theorem Upd.cell {S : Nat → Prop} {A B : World} (h : Upd S A B) {p : Addr} {v : Value} (hk : A.cell? p = some v) (hs : ¬ S p.block) : B.cell? p = some v :=
  (cell?_of_heap (h.block _ (World.block_lt_of_cell? A _ hk) hs)).trans hk

theorem Upd.putObj {S : Nat → Prop} {a b : World} (h : Upd S a b) (l : Nat) (o : Obj) (hl : l < a.heap.size → S l) : Upd S a (b.putObj l o) :=
  ⟨h.os, h.tape, h.output, by rw [World.putObj_size]; exact h.size, fun i hi hn => (World.putObj_heap_other (fun e => hn (by subst e; exact hl hi))).trans (h.block i hi hn)⟩

/-- **THE CONTRACT OF AN ITERATOR** that gives zs: its own blocks are the m blocks laid from its entry on; it reads the blocks in S. The caller's J abides whatever happens in the iterator's own blocks; each round keeps S and the iterator's own. -/
def SeqU {α : Type} (F : Fence) (n : Nat) (P : Program) (g : Nat) (lb : Array Value) (encs : α → Array Value) (S : Nat → Prop) (m : Nat) (zs : List α) (w : World) : Prop :=
  ∀ (l : Nat) (J Jx : List α → World → Prop) (W : World), Keeps S w W →
    (∀ s A A', J s A → Upd (Mine W.heap.size m) A A' → J s A') → (∀ s A A', Jx s A → Upd (Mine W.heap.size m) A A' → Jx s A') →
    (∀ pre x W1, J pre W1 → pre ++ [x] <+: zs → W.heap.size + m ≤ W1.heap.size → YieldAt F (n - 1) P l (encs x) W1 fun e W' =>
      Keeps (fun k => S k ∨ Mine W.heap.size m k) W1 W' ∧ ((e = .returned (.bool true) ∧ J (pre ++ [x]) W') ∨ (e = .returned (.bool false) ∧ Jx (pre ++ [x]) W'))) →
    J [] W →
    CallsIn F n P g (#[.func (.yield l) #[] #[]] ++ lb) W fun e W' => (∃ v, e = .returned v) ∧ (J zs W' ∨ ∃ pre, pre <+: zs ∧ Jx pre W')

theorem SeqU.later {α : Type} {F : Fence} {n : Nat} {P : Program} {g : Nat} {lb : Array Value} {encs : α → Array Value} {S : Nat → Prop} {m : Nat} {zs : List α} {w w' : World}
    (h : SeqU F n P g lb encs S m zs w) (hk : Keeps S w w') : SeqU F n P g lb encs S m zs w' :=
  fun l J Jx W hW => h l J Jx W (hk.trans hW)

/-- How a round's body may be left. -/
def postU {α : Type} (S : Nat → Prop) (I : List α → World → Prop) (Ix : Code → List α → World → Prop) (xs : List α) (W : World) : Exit → Act → World → Prop
  | .normal, _, W' => Keeps S W W' ∧ I xs W'
  | .ret, _, W' => Keeps S W W' ∧ Ix .ret xs W'
  | .exit id, _, W' => Keeps S W W' ∧ Ix (.exit id) xs W'
  | .goto t, _, W' => Keeps S W W' ∧ Ix (.goto t) xs W'
  | .panic _, _, _ => False
  | .outgrown, _, _ => False

variable {F : Fence} {n : Nat} {P : Program}

/-- **THE LAW OF THE CALLER's LOOP.** -/
theorem wpIn_rangeFunc_U {α : Type} {g : Operand} {ps : Array Tmp} {assign body : Code} {Q : Exit → Act → World → Prop} {a : Act} {w : World}
    (hro : F.round = none) (h1 : 1 ≤ n) {gf : Nat} {lb : Array Value} (hg : a.eval g = .func (.func gf) #[] lb) (hFg : F.fn gf) (eg : ∀ args w, (callFunc gf args).run P w = .ok (.enter gf args) w)
    {encs : α → Array Value} {S : Nat → Prop} {m : Nat} {zs : List α} {w0 : World} (hseq : SeqU F (n - 1) P gf lb encs S m zs w0)
    (hw : Keeps S w0 w) (hS0 : ∀ k, S k → k < w0.heap.size) (hps : ∀ x, (encs x).size = ps.size)
    (I : List α → World → Prop) (Ix : Code → List α → World → Prop)
    (hI : ∀ s A A', I s A → Upd (Mine w.heap.size (m + 2)) A A' → I s A') (hIx : ∀ c s A A', Ix c s A → Upd (Mine w.heap.size (m + 2)) A A' → Ix c s A') (h0 : I [] w) (a₁ : α → Act)
    (hassign : ∀ (l : Nat) (x : α) (W : World) (K : Act → World → Prop), K (a₁ x) W →
      assign.wpIn (F.inRound l) (n - 1 - 1) P (Exit.then K (fun _ _ _ => False)) { tmps := (ps.zip (encs x)).foldl (fun t (p, v) => t.setIfInBounds p v) a.tmps, defers := [] } W)
    (hbody : ∀ (l : Nat) (pre : List α) (x : α) (W : World), I pre W → pre ++ [x] <+: zs → w.heap.size + (m + 2) ≤ W.heap.size →
      body.wpIn (F.inRound l) (n - 1 - 1) P (postU (fun k => S k ∨ Mine w.heap.size (m + 2) k) I Ix (pre ++ [x]) W) (a₁ x) W)
    (hdone : ∀ (W : World), I zs W → W.heap[w.heap.size]? = some (.deferred (some [])) → Q .normal { a with defers := { target := .collected w.heap.size, args := #[] } :: a.defers } W)
    (hstop : ∀ (c : Code) (pre : List α) (W : World), pre <+: zs → Ix c pre W → W.heap[w.heap.size]? = some (.deferred (some [])) → c.wpIn F n P Q { a with defers := { target := .collected w.heap.size, args := #[] } :: a.defers } W) :
    (Code.rangeFunc g ps assign body).wpIn F n P Q a w := by
  have hS : ∀ k, S k → k < w.heap.size := fun k hk => Nat.lt_of_lt_of_le (hS0 k hk) hw.size
  refine wpIn_rangeFunc ?_
  intro fn hfn
  rw [hro]
  obtain ⟨rec, hrec⟩ : ∃ rec : LoopState → Option Code → Loop, rec = fun st pe => { state := st, pending := pe, fn, tmps := a.tmps, params := ps, assign, body, defers := w.heap.size } := ⟨_, rfl⟩
  obtain ⟨W1, hW1⟩ : ∃ W1, (w.alloc (.deferred (some []))).alloc (.loop (rec .ready none)) = W1 := ⟨_, rfl⟩
  have hL1 : W1.heap[w.heap.size + 1]? = some (.loop (rec .ready none)) := by
    rw [← hW1]; have := World.alloc_heap_new (w.alloc (.deferred (some []))) (.loop (rec .ready none)); rwa [World.size_alloc] at this
  have hK1 : W1.heap[w.heap.size]? = some (.deferred (some [])) := by
    rw [← hW1]; exact (Below.heap_alloc _ _ _ (by simp)).trans (World.alloc_heap_new w _)
  have hU1 : Upd (fun _ => False) w W1 := by rw [← hW1]; exact ((Upd.refl _ w).alloc _).alloc _
  have hz1 : W1.heap.size = w.heap.size + 2 := by rw [← hW1]; simp
  have hI1 : I [] W1 := hI _ _ _ h0 (hU1.mono (fun _ _ h => h.elim))
  have hsub : ∀ k, Mine (w.heap.size + 2) m k → Mine w.heap.size (m + 2) k := fun k h => ⟨by have := h.1; omega, by have := h.2; omega⟩
  have hl0 : Mine w.heap.size (m + 2) w.heap.size := ⟨Nat.le_refl _, by omega⟩
  have hl1 : Mine w.heap.size (m + 2) (w.heap.size + 1) := ⟨by omega, by omega⟩
  have hn0 : ∀ k, k ≤ w.heap.size + 1 → ¬ Mine (w.heap.size + 2) m k := fun k hk h => by have := h.1; omega
  refine ⟨w.heap.size + 1, [{ target := .collected w.heap.size, args := #[] }], W1, { target := .fn (.func gf) lb, args := #[.func (.yield (w.heap.size + 1)) #[] #[]] }, W1, gf,
    #[.func (.yield (w.heap.size + 1)) #[] #[]] ++ lb, W1, ?_, ?_, ?_, ?_, fun _ => h1, ?_⟩
  · rw [← hW1, hrec]; exact run_enterLoop_outer _ _ _ _ _
  · simp only [resolve, hg]
    simp [go_sem]
  · intro f' hf'; simp [Target.leads] at hf'; subst hf'; exact hFg
  · simp [invoke, go_sem, eg]
  · refine (hseq (w.heap.size + 1)
      (fun pre W => I pre W ∧ W.heap[w.heap.size + 1]? = some (.loop (rec .ready none)) ∧ W.heap[w.heap.size]? = some (.deferred (some [])))
      (fun pre W => ∃ c, Ix c pre W ∧ W.heap[w.heap.size + 1]? = some (.loop (rec .done (some c))) ∧ W.heap[w.heap.size]? = some (.deferred (some [])))
      W1 (hw.trans (Keeps.of_upd hU1 (fun _ _ _ h => h)))
      (fun s A B hs hu => by
        rw [hz1] at hu
        exact ⟨hI s A B hs.1 (hu.mono (fun k _ h => hsub k h)), hu.heap hs.2.1 (hn0 _ (by omega)), hu.heap hs.2.2 (hn0 _ (by omega))⟩)
      (fun s A B hs hu => by
        rw [hz1] at hu
        obtain ⟨c, hc, hl, hk⟩ := hs
        exact ⟨c, hIx c s A B hc (hu.mono (fun k _ h => hsub k h)), hu.heap hl (hn0 _ (by omega)), hu.heap hk (hn0 _ (by omega))⟩)
      ?_ ⟨hI1, hL1, hK1⟩).mono ?_
    · rintro pre x W ⟨hi, hl, hk⟩ hpre hsz
      rw [hz1] at hsz ⊢
      have hlt : w.heap.size + 1 < W.heap.size := lt_of_heap hl
      have hy := run_yield (P := P) (args := encs x) hl (by rw [hrec]; exact hps x)
      rw [hrec] at hy
      refine ⟨fn, _, assign, body, hy, roundIn_of_wpIn hfn (hassign _ x W _ ⟨_, run_beginRound hl (by rw [hrec]), ?_⟩)⟩
      have hl2 : (W.putObj (w.heap.size + 1) (.loop { rec .ready none with state := .busy })).heap[w.heap.size + 1]? = some (.loop { rec .ready none with state := .busy }) := World.putObj_heap_same hlt
      have hk2 : (W.putObj (w.heap.size + 1) (.loop { rec .ready none with state := .busy })).heap[w.heap.size]? = some (.deferred (some [])) := (World.putObj_heap_other (by omega)).trans hk
      have hu2 : Upd (fun k => k = w.heap.size + 1) W (W.putObj (w.heap.size + 1) (.loop { rec .ready none with state := .busy })) := (Upd.refl _ W).putObj _ _ (fun _ => rfl)
      refine wpIn_mono (hbody _ pre x _ (hI _ _ _ hi (hu2.mono (fun k _ e => by subst e; exact hl1))) hpre (by rw [World.putObj_size]; omega)) ?_
      have fin : ∀ (jump : Option Code) (W3 : World), Keeps (fun k => S k ∨ Mine w.heap.size (m + 2) k) (W.putObj (w.heap.size + 1) (.loop { rec .ready none with state := .busy })) W3 →
          (Instr.endRound (w.heap.size + 1) jump).run P W3 = .ok (.bool jump.isNone) (W3.putObj (w.heap.size + 1) (.loop (rec (if jump.isNone then .ready else .done) jump))) ∧
          (W3.putObj (w.heap.size + 1) (.loop (rec (if jump.isNone then .ready else .done) jump))).heap[w.heap.size + 1]? = some (.loop (rec (if jump.isNone then .ready else .done) jump)) ∧
          (W3.putObj (w.heap.size + 1) (.loop (rec (if jump.isNone then .ready else .done) jump))).heap[w.heap.size]? = some (.deferred (some [])) ∧
          Upd (Mine w.heap.size (m + 2)) W3 (W3.putObj (w.heap.size + 1) (.loop (rec (if jump.isNone then .ready else .done) jump))) ∧
          Keeps (fun k => S k ∨ Mine (w.heap.size + 2) m k) W (W3.putObj (w.heap.size + 1) (.loop (rec (if jump.isNone then .ready else .done) jump))) := fun jump W3 hk3 => by
        have hl3 := hk3.heap hl2 (.inr hl1)
        have hk4 := hk3.heap hk2 (.inr hl0)
        have := run_endRound (P := P) jump hl3
        rw [hrec] at this ⊢
        have hne : ∀ k, (S k ∨ Mine (w.heap.size + 2) m k) → ¬ k = w.heap.size + 1 := by
          rintro k (h | h) rfl
          · have := hS _ h; omega
          · exact hn0 _ (Nat.le_refl _) h
        refine ⟨this, World.putObj_heap_same (lt_of_heap hl3), (World.putObj_heap_other (by omega)).trans hk4, (Upd.refl _ W3).putObj _ _ (fun _ => hl1), ?_⟩
        refine ((Keeps.of_upd hu2 (fun k _ h => hne k h)).trans (hk3.mono (fun k _ h => h.imp id (hsub k)))).trans (Keeps.of_upd ((Upd.refl (fun k => k = w.heap.size + 1) W3).putObj _ _ (fun _ => rfl)) (fun k _ h => hne k h))
      rintro e a3 W3 hp
      cases e with
      | normal =>
        obtain ⟨hk3, hi3⟩ := hp
        obtain ⟨hr, hl4, hk4, hu4, hke⟩ := fin none W3 hk3
        exact ⟨_, _, hr, hke, .inl ⟨rfl, hI _ _ _ hi3 hu4, hl4, hk4⟩⟩
      | ret =>
        obtain ⟨hk3, hi3⟩ := hp
        obtain ⟨hr, hl4, hk4, hu4, hke⟩ := fin (some .ret) W3 hk3
        exact ⟨_, _, hr, hke, .inr ⟨rfl, .ret, hIx _ _ _ _ hi3 hu4, hl4, hk4⟩⟩
      | exit id =>
        obtain ⟨hk3, hi3⟩ := hp
        obtain ⟨hr, hl4, hk4, hu4, hke⟩ := fin (some (.exit id)) W3 hk3
        exact ⟨_, _, hr, hke, .inr ⟨rfl, .exit id, hIx _ _ _ _ hi3 hu4, hl4, hk4⟩⟩
      | goto t =>
        obtain ⟨hk3, hi3⟩ := hp
        obtain ⟨hr, hl4, hk4, hu4, hke⟩ := fin (some (.goto t)) W3 hk3
        exact ⟨_, _, hr, hke, .inr ⟨rfl, .goto t, hIx _ _ _ _ hi3 hu4, hl4, hk4⟩⟩
      | panic ch => exact hp.elim
      | outgrown => exact hp.elim
    · rintro e W2 ⟨⟨v, rfl⟩, (⟨hi, hl, hk⟩ | ⟨pre, hSp, c, hi, hl, hk⟩)⟩
      · exact ⟨none, _, by have := run_endLoop (P := P) hl (by rw [hrec]; simp); rw [hrec] at this; exact this, hdone _ (hI _ _ _ hi ((Upd.refl _ W2).putObj _ _ (fun _ => hl1))) ((World.putObj_heap_other (by omega)).trans hk)⟩
      · exact ⟨some c, _, by have := run_endLoop (P := P) hl (by rw [hrec]; simp); rw [hrec] at this; exact this, hstop c pre _ hSp (hIx c _ _ _ hi ((Upd.refl _ W2).putObj _ _ (fun _ => hl1))) ((World.putObj_heap_other (by omega)).trans hk)⟩

end Go.Proofs.YtehgbpepaakanaaDoor
