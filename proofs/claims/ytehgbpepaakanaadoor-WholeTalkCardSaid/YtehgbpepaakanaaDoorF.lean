/-
  Air: Send.
-/
import Derived.Test.YtehgbpepaakanaaDoorE
namespace Go.Proofs.YtehgbpepaakanaaDoor
open Go.RowKit
set_option linter.unusedVariables false
set_option maxRecDepth 20000
set_option linter.unusedSimpArgs false

theorem let_box (f t : Int) (a : Option Addr) (m d : Nat) (w : World) : ∃ w1, w.alloc (.cells #[.int .u8 f, .int .u8 t, .slice a m d] 37) = w1 ∧ w1.heap[w.heap.size]? = some (.cells #[.int .u8 f, .int .u8 t, .slice a m d] 37 (0, 0)) ∧ Below w.heap.size w w1 :=
  ⟨_, rfl, heap_alloc_new w _, (Below.refl _ w).alloc (Nat.le_refl _) _⟩

set_option maxHeartbeats 1000000 in
theorem send_bad (p : Option Addr) (f t : Int) (a : Option Addr) (m d : Nat) (w : World) (h : ABad w p) :
    Calls Tryd.prog 9 #[.pointer p, .agg #[.int .u8 f, .int .u8 t, .slice a m d]] w fun e w' => e = .returned (.int .i64 1) ∧ Below w.heap.size w w' := by
  obtain ⟨w1, hw1, hb, hB⟩ := let_box f t a m d w
  have hbad := h.below hB
  have x0 := blk_cell hb 0
  have x1 := blk_cell hb 1
  have x2 := blk_cell hb 2
  simp at x0 x1 x2
  clear hb
  go_enter Tryd.func9, Tryd.ntmps9
  go_wp2_with fail
  refine (row_bad _ _ _ hbad).mono ?_
  rintro e w' ⟨rfl, rfl⟩
  go_wp2_with fail
  go_ret
  exact ⟨rfl, hB⟩

set_option maxHeartbeats 1000000 in
theorem send_arg (P : Nat → Prop) (A : Nat) (room : Int) (st : Nat → List Lt) (f : Int) (t : Nat) (a : Option Addr) (m d : Nat) (w : World) (h : AirAt w P A room st) (ht : 17 ≤ t) (ht2 : t ≤ 255) :
    Calls Tryd.prog 9 #[.pointer (some ⟨A, 0, none⟩), .agg #[.int .u8 f, .int .u8 t, .slice a m d]] w fun e w' => e = .returned (.int .i64 2) ∧ Below w.heap.size w w' := by
  obtain ⟨b, v, L, hA, hP, hst⟩ := h
  obtain ⟨w1, hw1, hb, hB⟩ := let_box f t a m d w
  have hc := hA.c0 0 (by decide)
  have hc1 := Lib.hid ((hB.cell (p := ⟨A, 0, none⟩) (World.block_lt_of_cell? _ _ hc)).trans hc)
  have x0 := blk_cell hb 0
  have x1 := blk_cell hb 1
  have x2 := blk_cell hb 2
  simp at x0 x1 x2
  clear hb hA hP hst hc
  go_enter Tryd.func9, Tryd.ntmps9
  go_wp2_with fail
  refine (row_arg _ _ _ _ hc1.out ht ht2).mono ?_
  rintro e w' ⟨rfl, rfl⟩
  go_wp2_with fail
  go_ret
  exact ⟨rfl, hB⟩

set_option maxHeartbeats 1000000 in
/-- A letter that is from nobody. -/
theorem send_from (P : Nat → Prop) (A : Nat) (room : Int) (st : Nat → List Lt) (f : Int) (t : Nat) (a : Option Addr) (m d : Nat) (w : World) (h : AirAt w P A room st) (ht : t < 17) (hf : 17 ≤ f) :
    Calls Tryd.prog 9 #[.pointer (some ⟨A, 0, none⟩), .agg #[.int .u8 f, .int .u8 t, .slice a m d]] w fun e w' => e = .returned (.int .i64 2) ∧ Below w.heap.size w w' := by
  obtain ⟨b, v, L, hA, hP, hst⟩ := h
  obtain ⟨w1, hw1, hb, hB⟩ := let_box f t a m d w
  have hc := hA.c0 0 (by decide)
  have hc1 := Lib.hid ((hB.cell (p := ⟨A, 0, none⟩) (World.block_lt_of_cell? _ _ hc)).trans hc)
  have hct := hA.c0 t ht
  have hct1 := Lib.hid ((hB.cell (p := ⟨A, t, none⟩) (World.block_lt_of_cell? _ _ hct)).trans hct)
  have x0 := blk_cell hb 0
  have x1 := blk_cell hb 1
  have x2 := blk_cell hb 2
  simp at x0 x1 x2
  clear hb hA hP hst hc hct
  go_enter Tryd.func9, Tryd.ntmps9
  go_wp2_with fail
  refine (row_ok _ _ _ _ _ hc1.out hct1.out ht).mono ?_
  rintro e w' ⟨rfl, rfl⟩
  go_wp2_with fail
  go_ret
  exact ⟨rfl, hB⟩

set_option maxHeartbeats 1000000 in
/-- A letter that is too big. -/
theorem send_big (P : Nat → Prop) (A : Nat) (room : Int) (st : Nat → List Lt) (f : Int) (t : Nat) (a : Option Addr) (m d : Nat) (w : World) (h : AirAt w P A room st) (ht : t < 17) (hf : f < 17) (hm : 4000 < m) :
    Calls Tryd.prog 9 #[.pointer (some ⟨A, 0, none⟩), .agg #[.int .u8 f, .int .u8 t, .slice a m d]] w fun e w' => e = .returned (.int .i64 3) ∧ Below w.heap.size w w' := by
  obtain ⟨b, v, L, hA, hP, hst⟩ := h
  obtain ⟨w1, hw1, hb, hB⟩ := let_box f t a m d w
  have hc := hA.c0 0 (by decide)
  have hc1 := Lib.hid ((hB.cell (p := ⟨A, 0, none⟩) (World.block_lt_of_cell? _ _ hc)).trans hc)
  have hct := hA.c0 t ht
  have hct1 := Lib.hid ((hB.cell (p := ⟨A, t, none⟩) (World.block_lt_of_cell? _ _ hct)).trans hct)
  have x0 := blk_cell hb 0
  have x1 := blk_cell hb 1
  have x2 := blk_cell hb 2
  simp at x0 x1 x2
  clear hb hA hP hst hc hct
  have hf' : ¬ 17 ≤ f := by omega
  have hm' : (4000 : Int) < (m : Int) := by omega
  go_enter Tryd.func9, Tryd.ntmps9
  go_wp2_with fail
  refine (row_ok _ _ _ _ _ hc1.out hct1.out ht).mono ?_
  rintro e w' ⟨rfl, rfl⟩
  go_wp2_with fail
  go_ret
  exact ⟨rfl, hB⟩

set_option maxHeartbeats 1000000 in
/-- The row is full. -/
theorem send_full (P : Nat → Prop) (A : Nat) (room : Int) (st : Nat → List Lt) (f : Int) (t : Nat) (a : Option Addr) (m d : Nat) (bs : List Int) (w : World) (h : AirAt w P A room st) (hr : 0 < room) (ht : t < 17) (hf : f < 17) (hm : m ≤ 4000) (hbs : BR w a m d bs) (hn : room ≤ ((st t).length : Int)) :
    Calls Tryd.prog 9 #[.pointer (some ⟨A, 0, none⟩), .agg #[.int .u8 f, .int .u8 t, .slice a m d]] w fun e w' => e = .returned (.int .i64 6) ∧ Below w.heap.size w w' := by
  obtain ⟨b, v, L, hA, hP, hst⟩ := h
  have hl : ((L t).map LX.lv).length = (st t).length := by rw [hst t ht]; simp
  obtain ⟨w1, hw1, hb, hB⟩ := let_box f t a m d w
  have hc := hA.c0 0 (by decide)
  have hc1 := Lib.hid ((hB.cell (p := ⟨A, 0, none⟩) (World.block_lt_of_cell? _ _ hc)).trans hc)
  have hct := hA.c0 t ht
  have hct1 := Lib.hid ((hB.cell (p := ⟨A, t, none⟩) (World.block_lt_of_cell? _ _ hct)).trans hct)
  have hR := Lib.hid ((hA.keep (Upd.of_below hB (fun _ => False)) (fun _ _ h => h)).ring t ht)
  have hb2 := Lib.hid (hbs.below hB)
  have x0 := blk_cell hb 0
  have x1 := blk_cell hb 1
  have x2 := blk_cell hb 2
  simp at x0 x1 x2
  clear hb hA hP hst hc hct hbs
  have hf' : ¬ 17 ≤ f := by omega
  have hm' : ¬ (4000 : Int) < (m : Int) := by omega
  go_enter Tryd.func9, Tryd.ntmps9
  go_wp2_with fail
  refine (row_ok _ _ _ _ _ hc1.out hct1.out ht).mono ?_
  rintro e w' ⟨rfl, rfl⟩
  go_wp2_with fail
  refine (own_is _ _ _ _ _ _ _ hb2.out (by omega)).mono ?_
  rintro e w2 ⟨a', d', rfl, hS, hk, hB2⟩
  go_wp2_with fail
  refine (rPush_full (b t) (v t) room _ _ _ _ _ _ _ (RA.upd hR.out (Upd.of_below hB2 (fun _ => False)) (fun _ _ h => h)) hr (by rw [hl]; exact hn)).mono ?_
  rintro e w3 ⟨rfl, hB3⟩
  go_wp2_with fail
  go_ret
  exact ⟨rfl, hB.trans ((hB2.trans (hB3.mono hB2.size)).mono hB.size)⟩

theorem Upd.orfresh {P : Nat → Prop} {w w1 w2 : World} {S : Nat → Prop} (hB : Below w.heap.size w w1) (hU : Upd S w1 w2) (hS : ∀ k, S k → P k) : Upd P w w2 := (Upd.of_below hB P).trans hU (fun i _ h => hS i h)

/-- The air after a letter set out. -/
theorem AirAt.push {w w2 w3 : World} {P : Nat → Prop} {A : Nat} {room : Int} {b : Nat → Nat} {v : Nat → Value} {L : Nat → List LX} {st : Nat → List Lt} {t : Nat} {f tt : Int} {a : Option Addr} {m d : Nat} {bs : List Int} {v' : Value}
    (hA : AirW w A room b v L) (hP : ∀ k, Blocks A b v L k → P k) (hst : ∀ i, i < 17 → st i = (L i).map LX.lt) (ht : t < 17) (hB : Below w.heap.size w w2) (hS : BS w2 (.slice a m d) bs) (hk : ∀ k, (Value.slice a m d).ownBlock = some k → w.heap.size ≤ k)
    (hR : R3 w3 (b t) v' room ((L t).map LX.lv ++ [⟨f, tt, a, m, d⟩])) (hU : Upd (Of (b t) (v t)) w2 w3) (ho : v'.ownBlock = (v t).ownBlock ∨ ∃ g, v'.ownBlock = some g ∧ w2.heap.size ≤ g) (hn : ((st t).length : Int) < room) :
    ∃ P', AirAt w3 P' A room (upd st t (st t ++ [⟨f, tt, bs⟩])) ∧ Upd P w w3 ∧ (∀ k, P' k → P k ∨ w.heap.size ≤ k) := by
  have hA2 : AirW w2 A room b v L := hA.keep (Upd.of_below hB (fun _ => False)) (fun _ _ h => h)
  have ho' : v'.ownBlock = (v t).ownBlock ∨ ∃ g, v'.ownBlock = some g ∧ w.heap.size ≤ g := ho.imp id (fun ⟨g, h, hg⟩ => ⟨g, h, Nat.le_trans hB.size hg⟩)
  have hl : (L t).length = (st t).length := by rw [hst t ht]; simp
  have hnot : ∀ g, (LX.mk ⟨f, tt, a, m, d⟩ bs).blk = some g → ¬ Blocks A b v L g := fun g hg hb => by have := hk g hg; have := hA.lt hb; omega
  have hS3 : BS w3 (.slice a m d) bs := hS.upd hU (fun k hk' h => hnot k hk' (.inr ⟨t, ht, .inl h⟩))
  refine ⟨Blocks A b (upd v t v') (upd L t (L t ++ [⟨⟨f, tt, a, m, d⟩, bs⟩])), ⟨b, _, _, hA2.step ht (by simpa using hR) hU ho ?_ ?_ ?_, fun _ h => h, fun i hi => ?_⟩, Upd.orfresh hB hU (fun k h => hP k (.inr ⟨t, ht, .inl h⟩)), fun k h => ?_⟩
  · intro x hx
    rcases List.mem_append.1 hx with hx | hx
    · exact .inl hx
    · obtain rfl := List.mem_singleton.1 hx
      exact .inr ⟨hS3, hnot⟩
  · refine List.pairwise_append.2 ⟨hA.xp t ht, List.pairwise_singleton _ _, fun x hx y hy g hg hy' => ?_⟩
    obtain rfl := List.mem_singleton.1 hy
    exact hnot g hy' (.inr ⟨t, ht, .inr ⟨x, hx, hg⟩⟩)
  · simp; omega
  · by_cases e : i = t
    · subst e; rw [upd_same, upd_same, hst i hi]; simp [LX.lt]
    · rw [upd_other _ _ e, upd_other _ _ e]; exact hst i hi
  · have hx : ∀ x ∈ L t ++ [(⟨⟨f, tt, a, m, d⟩, bs⟩ : LX)], x ∈ L t ∨ ∀ g, x.blk = some g → w.heap.size ≤ g := fun x hx => by
      rcases List.mem_append.1 hx with hx | hx
      · exact .inl hx
      · obtain rfl := List.mem_singleton.1 hx
        exact .inr (fun g hg => hk g hg)
    rcases hA.step_blocks ht ho' hx k h with h | h
    · exact .inl (hP k h)
    · exact .inr h

set_option maxHeartbeats 1000000 in
theorem send_ok (P : Nat → Prop) (A : Nat) (room : Int) (st : Nat → List Lt) (f : Int) (t : Nat) (a : Option Addr) (m d : Nat) (bs : List Int) (w : World) (h : AirAt w P A room st) (hr : 0 < room) (hr2 : room ≤ 1000) (ht : t < 17) (hf : f < 17) (hm : m ≤ 4000) (hbs : BR w a m d bs) (hn : ((st t).length : Int) < room) :
    Calls Tryd.prog 9 #[.pointer (some ⟨A, 0, none⟩), .agg #[.int .u8 f, .int .u8 t, .slice a m d]] w fun e w' => e = .returned (.int .i64 0) ∧ ∃ P', AirAt w' P' A room (upd st t (st t ++ [⟨f, t, bs⟩])) ∧ Upd P w w' ∧ (∀ k, P' k → P k ∨ w.heap.size ≤ k) := by
  obtain ⟨b, v, L, hA, hP, hst⟩ := h
  have hl : ((L t).map LX.lv).length = (st t).length := by rw [hst t ht]; simp
  obtain ⟨w1, hw1, hb, hB⟩ := let_box f t a m d w
  have hc := hA.c0 0 (by decide)
  have hc1 := Lib.hid ((hB.cell (p := ⟨A, 0, none⟩) (World.block_lt_of_cell? _ _ hc)).trans hc)
  have hct := hA.c0 t ht
  have hct1 := Lib.hid ((hB.cell (p := ⟨A, t, none⟩) (World.block_lt_of_cell? _ _ hct)).trans hct)
  have hR := Lib.hid ((hA.keep (Upd.of_below hB (fun _ => False)) (fun _ _ h => h)).ring t ht)
  have hb2 := Lib.hid (hbs.below hB)
  have x0 := blk_cell hb 0
  have x1 := blk_cell hb 1
  have x2 := blk_cell hb 2
  simp at x0 x1 x2
  have HA := Lib.hid hA
  have HP := Lib.hid hP
  have HS := Lib.hid hst
  clear hb hA hP hst hc hct hbs
  have hf' : ¬ 17 ≤ f := by omega
  have hm' : ¬ (4000 : Int) < (m : Int) := by omega
  go_enter Tryd.func9, Tryd.ntmps9
  go_wp2_with fail
  refine (row_ok _ _ _ _ _ hc1.out hct1.out ht).mono ?_
  rintro e w' ⟨rfl, rfl⟩
  go_wp2_with fail
  refine (own_is _ _ _ _ _ _ _ hb2.out (by omega)).mono ?_
  rintro e w2 ⟨a', d', rfl, hS, hk, hB2⟩
  go_wp2_with fail
  refine (rPush (b t) (v t) room _ _ _ _ _ _ _ (RA.upd hR.out (Upd.of_below hB2 (fun _ => False)) (fun _ _ h => h)) hr (by omega) (by rw [hl]; exact hn)).mono ?_
  rintro e w3 ⟨rfl, v', hR3, hU, ho⟩
  go_wp2_with fail
  go_ret
  exact ⟨rfl, AirAt.push HA.out HP.out HS.out ht (hB.trans (hB2.mono hB.size)) hS (fun k h => Nat.le_trans hB.size (hk k h)) hR3 hU ho hn⟩

end Go.Proofs.YtehgbpepaakanaaDoor
