/-
  Sum: Chunk and its iterator.
-/
import Derived.Test.YtehgbpepaakanaaDoorCc
import Derived.Test.YtehgbpepaakanaaDoorCb
import Derived.Lib.Walk
import Derived.Lib.SliceRun
import Derived.StillTailTactics
import Derived.BigRegionIn
namespace Go.Proofs.YtehgbpepaakanaaDoor
open Go.RowKit Go.Shelf
set_option linter.unusedVariables false
set_option linter.unusedSimpArgs false
set_option maxRecDepth 20000

attribute [local go_sem] Oper.semAt_some

theorem calls_marks {P : Program} {f : FuncId} {fn : Func} {c : Code} {args : Array Value} {w : World} {R : Ending → World → Prop}
    (hf : P.funcs[f]? = some fn) (hb : fn.body = some c) (h : c.wp P (bodyPostM Fence.wide 9 P fn R) { tmps := args ++ Array.replicate (fn.ntmps - args.size) undef, defers := [] } w) : Calls P f args w R :=
  callsIn_wide.1 (callsIn_of_wp_marks (n := 9) hf hb trivial (wpIn_wide.2 h) rfl)

/-- The law in a plain walk. -/
theorem wp_rangeFunc_U {P : Program} {α : Type} {g : Operand} {ps : Array Tmp} {assign body : Code} {Q : Exit → Act → World → Prop} {a : Act} {w : World}
    {gf : Nat} {lb : Array Value} (hg : a.eval g = .func (.func gf) #[] lb) (eg : ∀ args w, (callFunc gf args).run P w = .ok (.enter gf args) w)
    {encs : α → Array Value} {S : Nat → Prop} {m : Nat} {zs : List α} {w0 : World} (hseq : SeqU Fence.wide 8 P gf lb encs S m zs w0)
    (hw : Keeps S w0 w) (hS0 : ∀ k, S k → k < w0.heap.size) (hps : ∀ x, (encs x).size = ps.size)
    (I : List α → World → Prop) (Ix : Code → List α → World → Prop)
    (hI : ∀ s A A', I s A → Upd (Mine w.heap.size (m + 2)) A A' → I s A') (hIx : ∀ c s A A', Ix c s A → Upd (Mine w.heap.size (m + 2)) A A' → Ix c s A') (h0 : I [] w) (a₁ : α → Act)
    (hassign : ∀ (l : Nat) (x : α) (W : World) (K : Act → World → Prop), K (a₁ x) W →
      assign.wpIn (Fence.wide.inRound l) 7 P (Exit.then K (fun _ _ _ => False)) { tmps := (ps.zip (encs x)).foldl (fun t (p, v) => t.setIfInBounds p v) a.tmps, defers := [] } W)
    (hbody : ∀ (l : Nat) (pre : List α) (x : α) (W : World), I pre W → pre ++ [x] <+: zs → w.heap.size + (m + 2) ≤ W.heap.size →
      body.wpIn (Fence.wide.inRound l) 7 P (postU (fun k => S k ∨ Mine w.heap.size (m + 2) k) I Ix (pre ++ [x]) W) (a₁ x) W)
    (hdone : ∀ (W : World), I zs W → W.heap[w.heap.size]? = some (.deferred (some [])) → Q .normal { a with defers := { target := .collected w.heap.size, args := #[] } :: a.defers } W)
    (hstop : ∀ (c : Code) (pre : List α) (W : World), pre <+: zs → Ix c pre W → W.heap[w.heap.size]? = some (.deferred (some [])) → c.wp P Q { a with defers := { target := .collected w.heap.size, args := #[] } :: a.defers } W) :
    (Code.rangeFunc g ps assign body).wp P Q a w :=
  (wpIn_wide (n := 9)).1 (wpIn_rangeFunc_U (n := 9) rfl (by omega) hg trivial eg hseq hw hS0 hps I Ix hI hIx h0 a₁ hassign hbody hdone (fun c pre W h1 h2 h3 => wpIn_wide.2 (hstop c pre W h1 h2 h3)))

/-- slices.Chunk of 3000. -/
theorem chunk_is (a : Option Addr) (n c : Nat) (w : World) :
    Calls Tryd.prog 62 #[.slice a n c, .int .i64 3000] w fun e w' => e = .returned (.func (.func 70) #[] #[.pointer (some ⟨w.heap.size, 0, none⟩), .pointer (some ⟨w.heap.size + 1, 0, none⟩)]) ∧ w' = (w.alloc (.cells #[.slice a n c] 28)).alloc (.cells #[.int .i64 3000] 3) := by
  go_enter Tryd.func62, Tryd.ntmps62
  go_wp2
  go_ret
  exact ⟨rfl, rfl⟩

/-- How many bytes stand in the chunk q. -/
def chunkLen (m q : Nat) : Nat := min 3000 (m - q * 3000)
def chunks (m : Nat) : List Nat := List.range ((m + 2999) / 3000)
theorem range_pre (k M : Nat) (h : k ≤ M) : List.range k <+: List.range M := by
  have := List.take_prefix k (List.range M)
  rwa [List.take_range, Nat.min_eq_left h] at this
def encC (b off m : Nat) (q : Nat) : Array Value := #[.slice (some ⟨b, off + q * 3000, none⟩) (chunkLen m q) (chunkLen m q)]

set_option maxHeartbeats 2000000 in
theorem chunk1_U (F : Fence) (n : Nat) (h70 : F.fn 70) (hro : F.round = none) (hn : 1 ≤ n) (Bs Bn : Nat) (S : Nat → Prop) (hSs : S Bs) (hSn : S Bn) (b off m d : Nat) (hm : m ≤ 10000) (hd : m ≤ d) (hd2 : (d : Int) ≤ 9223372036854775807) (w : World)
    (hBs : w.cell? ⟨Bs, 0, none⟩ = some (.slice (some ⟨b, off, none⟩) m d)) (hBn : w.cell? ⟨Bn, 0, none⟩ = some (.int .i64 3000)) :
    SeqU F n Tryd.prog 70 #[.pointer (some ⟨Bs, 0, none⟩), .pointer (some ⟨Bn, 0, none⟩)] (encC b off m) S 0 (chunks m) w := fun l J Jx W hW hJ hJx hY h0 => by
  have hs := hW.cell hBs hSs
  have hnn := hW.cell hBn hSn
  refine callsIn_of_wp Tryd.func70 rfl h70 ?_ hro
  simp only [Tryd.ntmps70, List.size_toArray, List.length_cons, List.length_nil, Nat.reduceAdd, Nat.reduceSub, Array.replicate_succ, Array.replicate_zero, List.push_toArray, List.append_toArray, List.nil_append, List.cons_append]
  gi_wp2
  gi_loopw [4] (fun i wr => ∃ k : Nat, k ≤ (m + 2999) / 3000 ∧ i = .int .i64 (k * 3000 : Nat) ∧ J (List.range k) wr ∧ Keeps S W wr)
    (fun i _ => 20000 - (intOf i).toNat)
  case atStart => exact ⟨0, Nat.zero_le _, rfl, h0, Keeps.refl _ _⟩
  case round =>
    obtain ⟨k, hk, rfl, hJs, hnx⟩ := hrel
    have hs' := hnx.cell hs hSs
    have hnn' := hnx.cell hnn hSn
    by_cases hlt : k * 3000 < m
    · have hpre : List.range k ++ [k] <+: chunks m := by rw [← List.range_succ]; exact range_pre _ _ (by omega)
      have hJd : J (List.range k) wr.drew := hJ _ _ _ hJs ((Upd.refl _ wr).drew)
      have hnd : Keeps S W wr.drew := hnx.trans (Keeps.of_upd (S := S) (T := fun _ => False) ((Upd.refl _ wr).drew) (fun _ _ _ h => h))
      have hnn'd : wr.drew.cell? ⟨Bn, 0, none⟩ = some (.int .i64 3000) := hnd.cell hnn hSn
      obtain ⟨fn, tmps, assign, body, hy, hR⟩ := hY _ k wr.drew hJd hpre hnd.size
      have hk1 := Lib.hid (show k + 1 ≤ (m + 2999) / 3000 by omega)
      obtain ⟨q, hq⟩ : ∃ q, q = k * 3000 := ⟨_, rfl⟩
      have HQ := Lib.hid hq
      unfold encC chunkLen at hy
      rw [← hq] at hlt hy ⊢
      clear hq
      have hlt' : (q : Int) < (m : Int) := by omega
      have hle' : (q : Int) ≤ (m : Int) := by omega
      have hle2 : q ≤ m := by omega
      have hle3 : q ≤ d := by omega
      have hdq : ¬ d = q := by omega
      obtain ⟨e, he⟩ : ∃ e, e = min 3000 (m - q) := ⟨_, rfl⟩
      have he' : min (3000 : Int) ((m - q : Nat) : Int) = (e : Int) := by omega
      rw [← he] at hy
      have hqe : (q : Int) + (e : Int) ≤ (d : Int) := by omega
      have hqe1 : (q : Int) ≤ (q : Int) + (e : Int) := by omega
      have hqe2 : (((q : Int) + (e : Int)).toNat) = q + e := by omega
      have hqe3 : q + e - q = e := by omega
      have hqe4 : 0 ≤ (q : Int) + (e : Int) := by omega
      have hqe5 : q + e ≤ d := by omega
      have hne : ¬ e = 0 := by omega
      have HE := Lib.hid he
      clear he
      gi_wp2
      gi_region
      all_goals
        (gi_wp2
         refine hR.mono ?_
         rintro ex W3 ⟨hk3, ⟨rfl, hJ3⟩ | ⟨rfl, hJx3⟩⟩
         · have hs3 := hk3.cell hnn'd (.inl hSn)
           gi_wp2
           go_roundw
           case rel => exact ⟨k + 1, hk1.out, by have := HQ.out; congr 1; omega, by rw [List.range_succ]; exact hJ3, hnd.trans (hk3.mono fun _ _ h => .inl h)⟩
           case measure => simp [intOf]; omega
         · gi_wp2
           refine bodyPost_ret (results_none rfl _ _ _) rfl ?_
           exact ⟨⟨_, rfl⟩, .inr ⟨_, hpre, hJx3⟩⟩)
    · have hge : ¬ ((k * 3000 : Nat) : Int) < (m : Int) := by omega
      obtain rfl : k = (m + 2999) / 3000 := by omega
      gi_wp2
      go_end0
      exact ⟨⟨_, rfl⟩, .inl hJs⟩
end Go.Proofs.YtehgbpepaakanaaDoor
