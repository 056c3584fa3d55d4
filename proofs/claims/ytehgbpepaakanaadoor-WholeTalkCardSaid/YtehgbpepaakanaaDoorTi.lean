/-
  WholeTalk's send.
-/
import Derived.Test.YtehgbpepaakanaaDoorTh
import Derived.Test.YtehgbpepaakanaaDoorDg
namespace Go.Proofs.YtehgbpepaakanaaDoor
open Go.RowKit
set_option linter.unusedVariables false
set_option linter.unusedSimpArgs false
set_option maxRecDepth 20000

attribute [local go_sem] Oper.semAt_some

/-- The box of a pointer to air. -/
def PB (w : World) (B A : Nat) : Prop := w.heap[B]? = some (.cells #[.pointer (some ⟨A, 0, none⟩)] 32 (0, 0))
theorem PB.cell {w : World} {B A : Nat} (h : PB w B A) : w.cell? ⟨B, 0, none⟩ = some (.pointer (some ⟨A, 0, none⟩)) := by have := blk_cell h 0; simpa using this
/-- The letter that bears a packet. -/
def ltOf (p : Pk) : Lt := ⟨0, 3, p.q :: strB p.s⟩

theorem made1 (W : World) (q : Int) : (W.alloc (.cells #[.int .u8 q] 5)).ownsRow W.heap.size 5 1 (.slice (some ⟨W.heap.size, 0, none⟩) 1 1) 1 [.int .u8 q] :=
  ⟨rfl, .inr ⟨W.heap.size, 1, #[.int .u8 q], rfl, Nat.le_refl _, heap_alloc_new W _, Nat.le_refl _, by decide, rfl, rfl⟩⟩

theorem app_below {w2 W w5 : World} {o : Obj} (h : Upd (fun _ => False) w2 W) (hg : (W.alloc o).grownBy w5 (some W.heap.size)) : Below w2.heap.size w2 w5 := by
  have h2 : Upd (fun k => W.heap.size ≤ k) W w5 := ((Upd.refl _ W).alloc o).trans (Upd.of_grown hg) (fun i _ e => by cases e; exact Nat.le_refl _)
  have h3 : Upd (fun k => W.heap.size ≤ k) w2 w5 := (h.mono (fun _ _ f => f.elim)).trans h2 (fun _ _ e => e)
  exact h3.below (Nat.le_refl _) (fun i hi e => by have := h.size; omega)
theorem row_slice {B : Nat} {w : World} {v : Value} {n : Nat} {xs : List Value} (h : w.ownsRow B 5 1 v n xs) : ∃ a d, v = .slice a n d := by
  rcases h.2 with ⟨rfl, h0⟩ | ⟨g, cap, cur, rfl, _⟩
  · exact ⟨none, 0, by rw [h0]⟩
  · exact ⟨_, _, rfl⟩

theorem row_read {B : Nat} {w : World} {a : Option Addr} {d : Nat} {q : Int} {s : ByteArray} (h : w.ownsRow B 5 1 (.slice a (1 + s.size) d) (1 + s.size) ([.int .u8 q] ++ Lib.strCells s)) : BR w a (1 + s.size) d (q :: strB s) := by
  refine BS.read ?_
  have := ownsRow_base (base' := 0) h (fun _ _ => Nat.zero_le _)
  have hl : (q :: strB s).length = 1 + s.size := by rw [List.length_cons, strB_len]; omega
  unfold BS
  rw [hl]
  rw [strCells_eq] at this
  exact this

set_option maxHeartbeats 2000000 in
theorem send16 (N : Nat → Prop) (A BA : Nat) (st : Nat → List Lt) (p : Pk) (w : World) (hA : AirHi N w A 1000 st) (hP : PB w BA A) (hNA : N BA) (h0 : 0 ≤ p.q) (h1 : p.q < 256) (hs : p.s.size ≤ 500) (hn : ((st 3).length : Int) < 1000) :
    Calls Tryd.prog 16 #[.agg #[.int .i64 p.q, .string p.s], .pointer (some ⟨BA, 0, none⟩)] w fun e w' => e = .returned (.tuple #[]) ∧ AirHi N w' A 1000 (upd st 3 (st 3 ++ [ltOf p])) ∧ Kept N w w' := by
  obtain ⟨i0, hi0, hz0, hz1, hz2⟩ := info_parts Tryd.infoB
  obtain ⟨w2, hw2⟩ : ∃ w2, w.alloc (.cells #[.int .i64 p.q, .string p.s] 54) = w2 := ⟨_, rfl⟩
  have hB2 : Below w.heap.size w w2 := by rw [← hw2]; exact (Below.refl _ w).alloc (Nat.le_refl _) _
  have hb2 : KB w2 w.heap.size p.q p.s := by rw [← hw2]; exact heap_alloc_new w _
  have hlt := lt_of_heap hP
  have hl2 := lt_of_heap hb2
  have hP2 : PB w2 BA A := (hB2.block _ hlt).trans hP
  have hA2 := hA.add hB2 (fun k => k = w.heap.size) (fun k hk => by subst hk; exact ⟨Nat.le_refl _, lt_of_heap hb2⟩)
  have hwq : IntKind.u8.wrap p.q = p.q := by rw [IntKind.wrap_u8]; omega
  obtain ⟨x0, x1, -⟩ := hb2.cells
  have y0 := hP2.cell
  have hlt5 := lt_of_heap hP2
  have HB2 := Lib.hid (Kept.of_below (N := N) hB2)
  have Hb2 := Lib.hid hb2
  have HP2 := Lib.hid hP2
  have HA2 := Lib.hid hA2
  have HW2 := Lib.hid hw2
  clear hA hP hA2 hP2 hb2 hw2 hB2
  go_enter Tryd.func16, Tryd.ntmps16
  go_upto_region 1 with fail
  rw [HW2.out]
  go_region_held3 (fun w' => w'.cell? ⟨w.heap.size, 0, none⟩ = some (.int .i64 p.q) ∧ w'.cell? ⟨w.heap.size, 1, none⟩ = some (.string p.s) ∧ w'.cell? ⟨BA, 0, none⟩ = some (.pointer (some ⟨A, 0, none⟩)))
    (first | (simp [*]; done) | go_keep)
    (first
      | (go_at_call 9; refine HS9.out.mono ?_; rintro e w6 ⟨rfl, hA6, hK6⟩; have hb6 := hK6.heap Hb5.out (.inr rfl); have hP6 : PB w6 BA A := hK6.heap HP5.out (.inl hNA); obtain ⟨z0, z1, -⟩ := KB.cells hb6; have z2 := hP6.cell; clear hb6 hP6; have HA6 := Lib.hid hA6; have HK6 := Lib.hid hK6; clear hA6 hK6)
      | (refine step_append_str rfl _ _ 28 9 rfl w2.heap.size 5 i0 Tryd.underlying28 Tryd.underlying9 hi0 hz0 hz1 hz2 _ _ _ rfl (made1 w2 p.q) p.s rfl (by unfold maxLen; omega) (by omega) (by simp) ?_; intro v5 w5 hown5 hgrow5; have hB5 := app_below (w2 := w2) ((Upd.refl _ _).drew) hgrow5; have hb5 := (hB5.block _ hl2).trans Hb2.out; have hP5 : PB w5 BA A := (hB5.block _ hlt5).trans HP2.out; obtain ⟨a5, d5, rfl⟩ := row_slice hown5; obtain ⟨z0, z1, -⟩ := KB.cells hb5; have z2 := hP5.cell; have HS9 := Lib.hid (send_hi 0 3 a5 (1 + p.s.size) d5 (p.q :: strB p.s) (HA2.out.below hB5) (by decide) (by decide) (by omega) (row_read hown5) hn); have HB5 := Lib.hid hB5; have Hb5 := Lib.hid hb5; have HP5 := Lib.hid hP5; clear hown5 hgrow5 hB5 hb5 hP5))
  go_wp2_with fail
  go_end0
  exact ⟨rfl, HA6.out.less (fun k h => .inl h), (HB2.out.trans (Kept.of_below HB5.out)).trans (HK6.out.less (fun k h => .inl h))⟩
end Go.Proofs.YtehgbpepaakanaaDoor
