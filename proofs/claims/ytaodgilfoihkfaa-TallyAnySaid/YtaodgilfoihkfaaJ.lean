/-
  The contract of does.
-/
import Derived.Test.YtaodgilfoihkfaaI
namespace Go.Proofs.Ytaodgilfoihkfaa
open Go.RowKit
set_option linter.unusedVariables false
set_option linter.unusedSimpArgs false

attribute [local go_sem ↓] ld22 ld23 ld25 ld30 st22 st23 st25 st30

/-- A call. -/
structure Ac where
  h : Bool
  who : Nat
  ep : Int
  vote : Int
abbrev Ac.arr (a : Ac) : Array Value := #[.bool a.h, .int .u8 (a.who : Int), .int .i64 a.ep, .int .i64 a.vote]
def Ac.does (a : Ac) (t : Ta) : Ta × Int := if a.h then t.hear a.who a.ep else t.put a.who a.ep a.vote
theorem Ac.len {t : Ta} (hl : t.Len) (a : Ac) : (a.does t).1.Len := by
  unfold Ac.does
  split
  · exact hl.hear _ _
  · exact hl.put _ _ _

theorem three (w : World) (t : Ta) (cs : Array Value) : Bx (((w.alloc (.cells t.arr 30)).alloc (.cells cs 27)).alloc (.cells zlit 30)) w.heap.size t ∧
    (((w.alloc (.cells t.arr 30)).alloc (.cells cs 27)).alloc (.cells zlit 30)).heap[w.heap.size + 1]? = some (.cells cs 27 (0, 0)) ∧ Bx (((w.alloc (.cells t.arr 30)).alloc (.cells cs 27)).alloc (.cells zlit 30)) (w.heap.size + 1 + 1) Ta.zero ∧ Below w.heap.size w (((w.alloc (.cells t.arr 30)).alloc (.cells cs 27)).alloc (.cells zlit 30)) := by
  refine ⟨((bx_new w t 30).alloc _).alloc _, blk_alloc ?_ _, ?_, (((Below.refl _ _).alloc (by simp) _).alloc (by simp) _).alloc (by simp; omega) _⟩
  · have := heap_alloc_new (w.alloc (.cells t.arr 30)) (.cells cs 27)
    simpa using this
  · have := bx_zero ((w.alloc (.cells t.arr 30)).alloc (.cells cs 27)) 30
    simpa using this

set_option maxHeartbeats 3200000 in
theorem does_is (t : Ta) (hl : t.Len) (h : Bool) (who : Nat) (ep vote : Int) (w : World) :
    Calls Try.prog 21 #[TV t, .agg #[.bool h, .int .u8 (who : Int), .int .i64 ep, .int .i64 vote]] w fun e w' => e = .returned (.tuple #[TV ((Ac.mk h who ep vote).does t).1, .int .i64 ((Ac.mk h who ep vote).does t).2]) ∧ Below w.heap.size w w' := by
  obtain ⟨hb0, hb1, hb2, hB⟩ := three w t #[.bool h, .int .u8 (who : Int), .int .i64 ep, .int .i64 vote]
  obtain ⟨⟨k0, k1, k2, k3⟩, k4⟩ : ((_ ∧ _ ∧ _ ∧ _) ∧ _) := ⟨⟨blk_cell hb1 0, blk_cell hb1 1, blk_cell hb1 2, blk_cell hb1 3⟩, trivial⟩
  have l30 := hb0.load30 hl
  simp only [List.getElem?_toArray, List.getElem?_cons_zero, List.getElem?_cons_succ] at k0 k1 k2 k3
  cases h
  · go_enter Try.func21, Try.ntmps21
    go_wp2_with fail
    refine (put_is t hl who ep vote _).mono ?_
    rintro e w1 ⟨rfl, hb⟩
    have hlr := hl.put who ep vote
    have s := (hb2.below hb).sto30 zero_len hlr
    have BR := Lib.hid ((hb2.below hb).row (t.put who ep vote).1)
    have BW := Lib.hid (brow (g := w.heap.size + 1 + 1) (hB.trans (hb.mono hB.size)) (by omega) (t.put who ep vote).1.arr)
    clear hb hb0 hb1 hb2 hB k0 k1 k2 k3 l30
    go_wp2_with fail
    refine bodyPost_ret (res_cell Try.results21 (.inl rfl) _ _ (w.heap.size + 1 + 1) _ hlr _ rfl rfl BR.out) rfl ⟨rfl, BW.out⟩
  · go_enter Try.func21, Try.ntmps21
    go_wp2_with fail
    refine (hear_is t hl who ep _).mono ?_
    rintro e w1 ⟨rfl, hb⟩
    have hlr := hl.hear who ep
    have s := (hb2.below hb).sto30 zero_len hlr
    have BR := Lib.hid ((hb2.below hb).row (t.hear who ep).1)
    have BW := Lib.hid (brow (g := w.heap.size + 1 + 1) (hB.trans (hb.mono hB.size)) (by omega) (t.hear who ep).1.arr)
    clear hb hb0 hb1 hb2 hB k0 k1 k2 k3 l30
    go_wp2_with fail
    refine bodyPost_ret (res_cell Try.results21 (.inl rfl) _ _ (w.heap.size + 1 + 1) _ hlr _ rfl rfl BR.out) rfl ⟨rfl, BW.out⟩

end Go.Proofs.Ytaodgilfoihkfaa
