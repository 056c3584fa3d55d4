/-
  A row of texts that no call made: it answers an error, or nothing.
-/
import Derived.Test.YthehhnlkpcfofaaThr
namespace Go.Proofs.Ythehhnlkpcfofaa
open Go.RowKit Go.Shelf
set_option linter.unusedVariables false
set_option linter.unusedSimpArgs false

attribute [local go_sem] Oper.semAt_some

/-- No row, or one that no call made. -/
def SBad (w : World) (p : Option Addr) : Prop := p = none ∨ ∃ b, p = some ⟨b, 0, none⟩ ∧ w.cell? ⟨b, 1, none⟩ = some (.int .i64 0)

theorem SBad.below {B : Nat} {w w' : World} {p : Option Addr} (h : SBad w p) (hb : Below w.heap.size w w') : SBad w' p := by
  rcases h with h | ⟨b, h, hc⟩
  · exact .inl h
  · exact .inr ⟨b, h, (hb.cell (p := ⟨b, 1, none⟩) (World.block_lt_of_cell? _ _ hc)).trans hc⟩

set_option maxHeartbeats 400000 in
theorem sGood (p : Option Addr) (w : World) (h : SBad w p) : Calls Try.prog 39 #[.pointer p] w fun e w' => e = .returned (.bool false) ∧ w = w' := by
  rcases h with rfl | ⟨b, rfl, hc⟩
  · go_enter Try.func39, Try.ntmps39
    go_wp2
    go_ret
    exact ⟨rfl, rfl⟩
  · go_enter Try.func39, Try.ntmps39
    go_wp2
    go_ret
    exact ⟨rfl, rfl⟩

set_option maxHeartbeats 400000 in
theorem sAt (p : Option Addr) (i : Int) (w : World) (h : SBad w p) : Calls Try.prog 23 #[.pointer p, .int .i64 i] w fun e w' => e = .returned (.tuple #[.string { data := #[] }, .int .i64 1]) ∧ w = w' := by
  go_enter Try.func23, Try.ntmps23
  go_wp2_with (go_at_call 39; refine (sGood _ _ h).mono ?_; rintro e w' ⟨rfl, rfl⟩)
  go_ret2
  exact ⟨rfl, rfl⟩

set_option maxHeartbeats 400000 in
theorem sPop (p : Option Addr) (w : World) (h : SBad w p) : Calls Try.prog 22 #[.pointer p] w fun e w' => e = .returned (.tuple #[.string { data := #[] }, .int .i64 1]) ∧ w = w' := by
  go_enter Try.func22, Try.ntmps22
  go_wp2_with (go_at_call 23; refine (sAt _ _ _ h).mono ?_; rintro e w' ⟨rfl, rfl⟩)
  go_ret2
  exact ⟨rfl, rfl⟩

set_option maxHeartbeats 400000 in
theorem sPush (p : Option Addr) (s : Value) (w : World) (h : SBad w p) : Calls Try.prog 25 #[.pointer p, s] w fun e w' => e = .returned (.int .i64 1) ∧ w = w' := by
  go_enter Try.func25, Try.ntmps25
  go_wp2_with (go_at_call 39; refine (sGood _ _ h).mono ?_; rintro e w' ⟨rfl, rfl⟩)
  go_ret
  exact ⟨rfl, rfl⟩

set_option maxHeartbeats 400000 in
theorem sDrop (p : Option Addr) (i : Int) (w : World) (h : SBad w p) : Calls Try.prog 26 #[.pointer p, .int .i64 i] w fun e w' => e = .returned (.int .i64 1) ∧ w = w' := by
  go_enter Try.func26, Try.ntmps26
  go_wp2_with (go_at_call 23; refine (sAt _ _ _ h).mono ?_; rintro e w' ⟨rfl, rfl⟩)
  go_ret
  exact ⟨rfl, rfl⟩

set_option maxHeartbeats 400000 in
theorem sLen (p : Option Addr) (w : World) (h : SBad w p) : Calls Try.prog 27 #[.pointer p] w fun e w' => e = .returned (.int .i64 0) ∧ w = w' := by
  go_enter Try.func27, Try.ntmps27
  go_wp2_with (go_at_call 39; refine (sGood _ _ h).mono ?_; rintro e w' ⟨rfl, rfl⟩)
  go_ret
  exact ⟨rfl, rfl⟩

set_option maxHeartbeats 400000 in
theorem sAll (p : Option Addr) (w : World) (h : SBad w p) :
    Calls Try.prog 24 #[.pointer p] w fun e w' => e = .returned (.func (.func 41) #[] #[.pointer (some ⟨w.heap.size, 0, none⟩)]) ∧ w' = w.alloc (.cells #[.slice none 0 0] 52) := by
  have h2 : SBad (w.alloc (.cells #[.slice none 0 0] 52)) p := h.below (B := 0) ((Below.refl _ w).alloc (Nat.le_refl _) _)
  go_enter Try.func24, Try.ntmps24
  go_wp2_with (go_at_call 39; refine (sGood _ _ h2).mono ?_; rintro e w' ⟨rfl, rfl⟩)
  go_ret
  exact ⟨rfl, rfl⟩

set_option maxHeartbeats 1000000 in
theorem sValues_in (F : Fence) (n : Nat) (h42 : F.fn 42) (hro : F.round = none) (a : Option Addr) (len cap : Nat) (w : World) :
    CallsIn F n Try.prog 42 #[.slice a len cap] w fun e w' => e = .returned (.func (.func 47) #[] #[.pointer (some ⟨w.heap.size, 0, none⟩)]) ∧ w' = w.alloc (.cells #[.slice a len cap] 52) := by
  refine callsIn_of_wp Try.func42 rfl h42 ?_ hro
  simp only [Try.ntmps42, List.size_toArray, List.length_cons, List.length_nil, Nat.reduceAdd, Nat.reduceSub, Array.replicate_succ, Array.replicate_zero, List.push_toArray, List.append_toArray, List.nil_append, List.cons_append]
  gi_wp2
  go_ret
  exact ⟨rfl, rfl⟩

set_option maxRecDepth 100000 in
set_option maxHeartbeats 2000000 in
theorem sValues1_U (F : Fence) (n : Nat) (h47 : F.fn 47) (hro : F.round = none) (Bs : Nat) (S : Nat → Prop) (hSB : S Bs) (w : World)
    (hBs : w.cell? ⟨Bs, 0, none⟩ = some (.slice none 0 0)) :
    SeqU F n Try.prog 47 #[.pointer (some ⟨Bs, 0, none⟩)] (fun x : ByteArray => #[Value.string x]) S 0 [] w := fun l J Jx W hW hJ hJx hY h0 => by
  have hBs' := hW.cell hBs hSB
  refine callsIn_of_wp Try.func47 rfl h47 ?_ hro
  simp only [Try.ntmps47, List.size_toArray, List.length_cons, List.length_nil, Nat.reduceAdd, Nat.reduceSub, Array.replicate_succ, Array.replicate_zero, List.push_toArray, List.append_toArray, List.nil_append, List.cons_append]
  gi_wp2
  gi_loopw [7] (fun i wr => i = .int .i64 0 ∧ J [] wr) (fun _ _ => 0)
  case atStart => exact ⟨rfl, h0⟩
  case round =>
    obtain ⟨rfl, hJs⟩ := hrel
    gi_wp2
    go_end0
    exact ⟨⟨_, rfl⟩, .inl hJs⟩

theorem not_pre_nil {α : Type} {pre : List α} {x : α} : ¬ pre ++ [x] <+: [] := fun h => by have := h.length_le; simp at this

set_option maxRecDepth 100000 in
set_option maxHeartbeats 2000000 in
theorem sAll1_U (F : Fence) (n : Nat) (h41 : F.fn 41) (h42 : F.fn 42) (h47 : F.fn 47) (hro : F.round = none) (hn : 3 ≤ n) (Bs : Nat) (S : Nat → Prop) (hSB : S Bs) (w : World)
    (hSl : ∀ k, S k → k < w.heap.size) (hBs : w.cell? ⟨Bs, 0, none⟩ = some (.slice none 0 0)) :
    SeqU F n Try.prog 41 #[.pointer (some ⟨Bs, 0, none⟩)] (fun x : ByteArray => #[Value.string x]) S 4 [] w := fun l J Jx W hW hJ hJx hY h0 => by
  have h1 : 1 ≤ n := by omega
  have hBs' := hW.cell hBs hSB
  have hSl' : ∀ k, S k → k < W.heap.size := fun k hk => Nat.lt_of_lt_of_le (hSl k hk) hW.size
  have hBl := hSl' Bs hSB
  refine callsIn_of_wp_marks Try.func41 rfl h41 ?_ hro
  simp only [Try.ntmps41, List.size_toArray, List.length_cons, List.length_nil, Nat.reduceAdd, Nat.reduceSub, Array.replicate_succ, Array.replicate_zero, List.push_toArray, List.append_toArray, List.nil_append, List.cons_append]
  gi_wp2_with (gi_at_call 42; refine (sValues_in F (n - 1) h42 hro _ _ _ _).mono ?_; rintro e w' ⟨rfl, rfl⟩)
  obtain ⟨w2, hw2⟩ : ∃ w2, ((W.alloc (.cells #[.func (.yield l) #[] #[]] 79)).alloc (.cells #[.slice none 0 0] 52)) = w2 := ⟨_, rfl⟩
  have hz2 : w2.heap.size = W.heap.size + 2 := by rw [← hw2]; simp
  have hU2 : Upd (fun _ => False) W w2 := by rw [← hw2]; exact ((Upd.refl _ W).alloc _).alloc _
  have hv2 : w2.cell? ⟨W.heap.size + 1, 0, none⟩ = some (.slice none 0 0) := by
    rw [← hw2]; have := cell_new (W.alloc (.cells #[.func (.yield l) #[] #[]] 79)) (.slice none 0 0) 52; rwa [World.size_alloc] at this
  rw [hw2]
  refine wpIn_rangeFunc_U hro h1 (gf := 47) (lb := #[.pointer (some ⟨W.heap.size + 1, 0, none⟩)]) rfl h47 (enters_of Try.func47 (by kernel_rfl) rfl)
    (sValues1_U F (n - 1) h47 hro (W.heap.size + 1) (fun k => k = W.heap.size + 1 ∨ S k) (.inl rfl) w2 hv2) (Keeps.refl _ _) ?hS0 (fun _ => rfl)
    (fun pre A => J pre A) (fun _ _ _ => False)
    ?hI (fun _ _ _ _ h _ => h) (hJ _ _ _ h0 (hU2.mono fun _ _ h => h.elim))
    (fun x => { tmps := #[.func (.yield l) #[] #[], .pointer (some ⟨Bs, 0, none⟩), .pointer (some ⟨W.heap.size, 0, none⟩), .string x, .slice none 0 0, .func (.func 47) #[] #[.pointer (some ⟨W.heap.size + 1, 0, none⟩)], .string x, undef, undef, undef, undef], defers := [] }) ?assign (fun _ _ _ _ _ hp _ => (not_pre_nil hp).elim) ?done (fun _ _ _ _ h _ => h.elim)
  case hS0 =>
    rintro k (rfl | h)
    · omega
    · have := hSl' k h; omega
  case hI =>
    intro s A A' hs hu
    rw [hz2] at hu
    exact hJ _ _ _ hs (hu.mono fun k _ h => ⟨by have := h.1; omega, by have := h.2; omega⟩)
  case assign =>
    intro l2 x A K hK
    gi_wp2
    exact hK
  case done =>
    rintro A hj hK
    rw [hz2] at hK ⊢
    gi_wp2
    refine ⟨by simp, .inl ⟨_, _, rfl, run_takeDeferred hK, ?_⟩⟩
    exact ⟨_, results_none rfl _ _ _, ⟨_, rfl⟩, .inl (hJ _ _ _ hj ((Upd.refl _ A).putObj _ _ (fun _ => ⟨by omega, by omega⟩)))⟩

end Go.Proofs.Ythehhnlkpcfofaa
