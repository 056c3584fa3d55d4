/-
  same: a row has just these.
-/
import Derived.Test.YthehhnlkpcfofaaW
namespace Go.Proofs.Ythehhnlkpcfofaa
open Go.RowKit Go.Shelf
set_option linter.unusedVariables false
set_option linter.unusedSimpArgs false

attribute [local go_sem] Oper.semAt_some

theorem pre_get {α : Type} {pre zs : List α} {x : α} (h : pre ++ [x] <+: zs) : zs[pre.length]? = some x ∧ pre.length < zs.length := by
  obtain ⟨t, rfl⟩ := h
  constructor
  · simp
  · simp

theorem upd_setCell_self (A : World) (p : Addr) (v : Value) : Upd (fun k => k = p.block) A (A.setCell p v) := (Upd.refl _ A).setCell p v (fun _ => rfl)

/-- The variables of 'same' in its loop: the slice, the result, the counter. -/
def SameVars (w : World) (sl : Value) (i : Int) (A : World) : Prop :=
  A.heap[w.heap.size]? = some (.cells #[sl] 22 (0, 0)) ∧ A.heap[w.heap.size + 1]? = some (.cells #[.bool false] 4 (0, 0)) ∧ A.heap[w.heap.size + 1 + 1]? = some (.cells #[.int .i64 i] 3 (0, 0)) ∧ Below w.heap.size w A

theorem SameVars.upd {w : World} {sl : Value} {i : Int} {A A' : World} (h : SameVars w sl i A) {S : Nat → Prop} (hu : Upd S A A') (hS : ∀ k, S k → w.heap.size + 3 ≤ k) : SameVars w sl i A' :=
  ⟨hu.heap h.1 (fun h => by have := hS _ h; omega), hu.heap h.2.1 (fun h => by have := hS _ h; omega), hu.heap h.2.2.1 (fun h => by have := hS _ h; omega), h.2.2.2.trans (hu.below h.2.2.2.size (fun i hi h => by have := hS _ h; omega))⟩

set_option maxRecDepth 100000 in
set_option maxHeartbeats 2000000 in
theorem same_in (b : Nat) (v : Value) (room : Int) (zs : List Int) (hreach : zs.length * 8 ≤ 140737488351232) (a0 : Option Addr) (cap0 : Nat) (w : World) (h : RI w b v room zs) (hr : 0 < room) (hl : Ints .i64 w.heap.size w a0 zs) :
    Calls Try.prog 15 #[.pointer (some ⟨b, 0, none⟩), .slice a0 zs.length cap0] w fun e w' => e = .returned (.bool true) ∧ Below w.heap.size w w' := by
  obtain ⟨w3, hw3⟩ : ∃ w3, ((w.alloc (.cells #[.slice a0 zs.length cap0] 22)).alloc (.cells #[.bool false] 4)).alloc (.cells #[.int .i64 0] 3) = w3 := ⟨_, rfl⟩
  have hz3 : w3.heap.size = w.heap.size + 3 := by rw [← hw3]; simp
  have hB3 : Below w.heap.size w w3 := by rw [← hw3]; exact (((Below.refl _ w).alloc (Nat.le_refl _) _).alloc (by simp) _).alloc (by simp; omega) _
  have hR3 : RI w3 b v room zs := h.upd (Upd.of_below hB3 (fun _ => False)) (fun _ _ h => h)
  have hV3 : SameVars w (.slice a0 zs.length cap0) 0 w3 := by
    refine ⟨?_, ?_, ?_, hB3⟩
    · rw [← hw3]; exact blk_alloc (blk_alloc (World.alloc_heap_new w _) _) _
    · rw [← hw3]; have := World.alloc_heap_new (w.alloc (.cells #[.slice a0 zs.length cap0] 22)) (.cells #[.bool false] 4); rw [World.size_alloc] at this; exact blk_alloc this _
    · rw [← hw3]; have := World.alloc_heap_new ((w.alloc (.cells #[.slice a0 zs.length cap0] 22)).alloc (.cells #[.bool false] 4)) (.cells #[.int .i64 0] 3); rw [World.size_alloc, World.size_alloc] at this; exact this
  have HA := Lib.hid (all_in b v room zs hreach w3 hR3 hr)
  have HL := Lib.hid hl
  have HR := Lib.hid h
  have HW3 := Lib.hid hw3
  clear hR3 h hl hw3
  refine calls_marks Try.func15 rfl ?_
  simp only [Try.ntmps15, List.size_toArray, List.length_cons, List.length_nil, Nat.reduceAdd, Nat.reduceSub, Array.replicate_succ, Array.replicate_zero, List.push_toArray, List.append_toArray, List.nil_append, List.cons_append]
  go_wp2_with fail
  rw [HW3.out]
  refine HA.out.mono ?_
  rintro e w4 ⟨Bs, sv, S, rfl, hB4, hSB, hSl, hBs, hI⟩
  have hV4 : SameVars w (.slice a0 zs.length cap0) 0 w4 := hV3.upd (Upd.of_below hB4 (fun _ => False)) (fun _ h => h.elim)
  have hz4 := hB4.size
  go_wp2_with fail
  refine wp_rangeFunc_U (gf := 36) (lb := #[.pointer (some ⟨Bs, 0, none⟩)]) rfl (enters_of Try.func36 (by kernel_rfl) rfl)
    (all1_U Fence.wide 8 trivial trivial trivial rfl rfl (by omega) Bs S hSB sv zs hreach w4 (fun k hk => (hSl k hk).2) hBs hI) (Keeps.refl _ _) (fun k hk => (hSl k hk).2) (fun _ => rfl)
    (fun pre A => SameVars w (.slice a0 zs.length cap0) pre.length A) (fun _ _ _ => False) ?hI (fun _ _ _ _ h _ => h) hV4
    (fun x => { tmps := #[.pointer (some ⟨b, 0, none⟩), .slice a0 zs.length cap0, undef, .pointer (some ⟨w.heap.size, 0, none⟩), .pointer (some ⟨w.heap.size + 1, 0, none⟩), .pointer (some ⟨w.heap.size + 1 + 1, 0, none⟩), .int .i64 x, .pointer (some ⟨b, 0, none⟩), .func (.func 36) #[] #[.pointer (some ⟨Bs, 0, none⟩)], .int .i64 x,
      undef, undef, undef, undef, undef, undef, undef, undef, undef, undef, undef, undef, undef, undef, undef, undef, undef, undef, undef, undef, undef, undef, undef, undef, undef], defers := [] }) ?assign ?body ?done ?stop
  case hI =>
    intro s A A' hs hu
    exact hs.upd hu (fun k hk => by have := hk.1; omega)
  case assign =>
    intro l x A K hK
    gi_wp2
    exact hK
  case body =>
    rintro l pre x A hV hpre hsz
    obtain ⟨hx, hlt⟩ := pre_get hpre
    obtain ⟨b0, off0, rfl, hcell⟩ := (HL.out.below hV.2.2.2).get hx
    have c0 := blk_cell hV.1 0
    have c2 := blk_cell hV.2.2.1 0
    have f2 := blk_frozen hV.2.2.1 0
    simp at c0 c2
    have HX := Lib.hid hx
    clear hx
    gi_wp2
    have hb4 := hsz
    refine ⟨Keeps.of_upd (upd_setCell_self A ⟨w.heap.size + 1 + 1, 0, none⟩ _) ?_, ?_, ?_, ?_, hV.2.2.2.setCell (p := ⟨w.heap.size + 1 + 1, 0, none⟩) (by show w.heap.size ≤ w.heap.size + 1 + 1; omega) _⟩
    · rintro k _ (h | h) (e : k = w.heap.size + 1 + 1)
      · have := (hSl _ h).1; omega
      · have := h.1; omega
    · exact blk_far hV.1 ⟨w.heap.size + 1 + 1, 0, none⟩ (by show w.heap.size ≠ w.heap.size + 1 + 1; omega) _
    · exact blk_far hV.2.1 ⟨w.heap.size + 1 + 1, 0, none⟩ (by show w.heap.size + 1 ≠ w.heap.size + 1 + 1; omega) _
    · have := blk_set hV.2.2.1 0 (.int .i64 (pre.length + 1))
      rw [List.length_append]
      simpa using this
  case done =>
    rintro A hV hK
    go_wp2
    refine region_still_at 11 (by kernel_rfl) (by kernel_rfl) (fun A2 hA2 => ?_)
    have hU2 : Upd (fun _ => False) A A2 := by rw [hA2]; exact (Upd.refl _ A).drew
    have hV2 := hV.upd hU2 (fun _ h => h.elim)
    replace hK : A2.heap[w4.heap.size]? = some (.deferred (some [])) := hU2.heap hK (fun h => h)
    clear hA2 hU2 hV
    have c0 := blk_cell hV2.1 0
    have c1 := blk_cell hV2.2.1 0
    have f1 := blk_frozen hV2.2.1 0
    have c2 := blk_cell hV2.2.2.1 0
    simp at c0 c1 c2
    have hRA : RI A2 b v room zs := HR.out.upd (Upd.of_below hV2.2.2.2 (fun _ => False)) (fun _ _ h => h)
    have HLen := Lib.hid (len_is b v room _ _ A2 hRA hr)
    simp only [List.take_succ_cons, List.take_zero, List.drop_succ_cons, List.drop_zero]
    repeat still_step
    still_call (HLen.out.mono (fun e w' h => ⟨h.1, h.2.symm⟩))
    repeat still_step
    refine wpStill_nil ?_
    go_wp2
    have hne : w4.heap.size ≠ w.heap.size + 1 := by omega
    have hK2 := blk_far hK ⟨w.heap.size + 1, 0, none⟩ hne (.bool true)
    refine ⟨by simp, .inl ⟨_, _, rfl, run_takeDeferred hK2, ?_⟩⟩
    have hc := blk_cell (((blk_set hV2.2.1 0 (.bool true)).symm ▸ (World.putObj_heap_other (w := A2.setCell ⟨w.heap.size + 1, 0, none⟩ (.bool true)) (r := w4.heap.size) (o := .deferred none) hne.symm) : _)) 0
    simp at hc
    refine ⟨.bool true, ?_, rfl, ?_⟩
    · simp [results, Try.results15, go_sem, hc]
    · exact (hV2.2.2.2.setCell (p := ⟨w.heap.size + 1, 0, none⟩) (by show w.heap.size ≤ w.heap.size + 1; omega) _).trans
        ((Upd.refl (fun k => k = w4.heap.size) _).putObj _ _ (fun _ => rfl) |>.below (by have := hV2.2.2.2.size; simp [World.setCell]; omega) (fun i hi e => by omega))
  case stop => intro c pre A _ h; exact h.elim

end Go.Proofs.Ythehhnlkpcfofaa
