/-
  note.Right.
-/
import Derived.Test.YtehgbpepaakanaaDoorEq
import Derived.Deep.CutRange
import Derived.Deep.CutBlock
namespace Go.Proofs.YtehgbpepaakanaaDoor
open Go.RowKit Go.Shelf
set_option linter.unusedVariables false
set_option linter.unusedSimpArgs false
set_option maxRecDepth 20000

attribute [local go_sem] Oper.semAt_some

/-- A note. -/
structure Nt where
  k : Int
  mob : Int
  tx : Int
  ep : Int
  v : Int
  ki : Int
  fr : Int
  tt : Int
  me : Int
  s : ByteArray
def NV (n : Nt) : Value := .agg #[.int .i64 n.k, .int .u8 n.mob, .int .i64 n.tx, .int .i64 n.ep, .int .i64 n.v, .int .i64 n.ki, .int .u8 n.fr, .int .u8 n.tt, .int .i64 n.me, .string n.s]
def NC (n : Nt) : Array Value := #[.int .i64 n.k, .int .u8 n.mob, .int .i64 n.tx, .int .i64 n.ep, .int .i64 n.v, .int .i64 n.ki, .int .u8 n.fr, .int .u8 n.tt, .int .i64 n.me, .string n.s]

theorem has_is (lo hi x : Int) (w : World) : Calls Tryd.prog 30 #[.agg #[.int .i64 lo, .int .i64 hi], .int .i64 x] w fun e w' => e = .returned (.bool (decide (lo ≤ x ∧ x ≤ hi))) ∧ Below w.heap.size w w' := by
  by_cases h1 : lo ≤ x
  · by_cases h2 : x ≤ hi
    · rw [decide_eq_true (And.intro h1 h2)]
      go_enter Tryd.func30, Tryd.ntmps30
      go_wp2_with fail
      go_ret
      exact ⟨rfl, (Below.refl _ w).alloc (Nat.le_refl _) _⟩
    · rw [decide_eq_false (fun h => h2 h.2)]
      go_enter Tryd.func30, Tryd.ntmps30
      go_wp2_with fail
      go_ret
      exact ⟨rfl, (Below.refl _ w).alloc (Nat.le_refl _) _⟩
  · rw [decide_eq_false (fun h => h1 h.1)]
    go_enter Tryd.func30, Tryd.ntmps30
    go_wp2_with fail
    go_ret
    exact ⟨rfl, (Below.refl _ w).alloc (Nat.le_refl _) _⟩

def Sp (w : World) (a : Nat) (lo hi : Int) : Prop := w.heap[a]? = some (.cells #[.int .i64 lo, .int .i64 hi] 92 (0, 0))
/-- The state of Right behind its variables. -/
structure St (w : World) (n : Nt) (a5 a6 a7 : Nat) (s5 s6 s7 : Int × Int) (x : World) : Prop where
  note : x.heap[w.heap.size]? = some (.cells (NC n) 25 (0, 0))
  s1 : Sp x (w.heap.size + 1) 0 0
  s2 : Sp x (w.heap.size + 1 + 1) 1 1048576
  h5 : Sp x a5 s5.1 s5.2
  h6 : Sp x a6 s6.1 s6.2
  h7 : Sp x a7 s7.1 s7.2
  below : Below w.heap.size w x

theorem St.later {w : World} {n : Nt} {a5 a6 a7 : Nat} {s5 s6 s7 : Int × Int} {x y : World} (h : St w n a5 a6 a7 s5 s6 s7 x) (hb : Below x.heap.size x y) : St w n a5 a6 a7 s5 s6 s7 y :=
  ⟨(hb.block _ (lt_of_heap h.note)).trans h.note, (hb.block _ (lt_of_heap h.s1)).trans h.s1, (hb.block _ (lt_of_heap h.s2)).trans h.s2, (hb.block _ (lt_of_heap h.h5)).trans h.h5, (hb.block _ (lt_of_heap h.h6)).trans h.h6, (hb.block _ (lt_of_heap h.h7)).trans h.h7, h.below.trans (hb.mono h.below.size)⟩
theorem Sp.cells {w : World} {a : Nat} {lo hi : Int} (h : Sp w a lo hi) : w.cell? ⟨a, 0, none⟩ = some (.int .i64 lo) ∧ w.cell? ⟨a, 1, none⟩ = some (.int .i64 hi) ∧ w.frozen? ⟨a, 0, none⟩ = false ∧ w.frozen? ⟨a, 1, none⟩ = false := by
  have h0 := blk_cell h 0
  have h1 := blk_cell h 1
  simp at h0 h1
  exact ⟨h0, h1, blk_frozen h 0, blk_frozen h 1⟩
theorem St.note_cells {w : World} {n : Nt} {a5 a6 a7 : Nat} {s5 s6 s7 : Int × Int} {x : World} (h : St w n a5 a6 a7 s5 s6 s7 x) :
    x.cell? ⟨w.heap.size, 0, none⟩ = some (.int .i64 n.k) ∧ x.cell? ⟨w.heap.size, 1, none⟩ = some (.int .u8 n.mob) ∧ x.cell? ⟨w.heap.size, 2, none⟩ = some (.int .i64 n.tx) ∧ x.cell? ⟨w.heap.size, 3, none⟩ = some (.int .i64 n.ep) ∧ x.cell? ⟨w.heap.size, 4, none⟩ = some (.int .i64 n.v) ∧
    x.cell? ⟨w.heap.size, 5, none⟩ = some (.int .i64 n.ki) ∧ x.cell? ⟨w.heap.size, 6, none⟩ = some (.int .u8 n.fr) ∧ x.cell? ⟨w.heap.size, 7, none⟩ = some (.int .u8 n.tt) ∧ x.cell? ⟨w.heap.size, 8, none⟩ = some (.int .i64 n.me) ∧ x.cell? ⟨w.heap.size, 9, none⟩ = some (.string n.s) := by
  refine ⟨?_, ?_, ?_, ?_, ?_, ?_, ?_, ?_, ?_, ?_⟩ <;> rw [blk_cell h.note] <;> rfl
theorem Sp.set {x : World} {a : Nat} {l h : Int} (hs : Sp x a l h) (lo hi : Int) : Sp ((x.setCell ⟨a, 0, none⟩ (.int .i64 lo)).setCell ⟨a, 1, none⟩ (.int .i64 hi)) a lo hi := by
  have := blk_set (blk_set hs 0 (.int .i64 lo)) 1 (.int .i64 hi)
  simpa [Sp] using this
theorem Sp.far {x : World} {a b : Nat} {l h : Int} (hs : Sp x a l h) (hne : a ≠ b) (u v : Value) : Sp ((x.setCell ⟨b, 0, none⟩ u).setCell ⟨b, 1, none⟩ v) a l h := blk_far (blk_far hs ⟨b, 0, none⟩ hne u) ⟨b, 1, none⟩ hne v
section
variable {w : World} {n : Nt} {a5 a6 a7 : Nat} {s5 s6 s7 : Int × Int} {x : World}
theorem St.set5 (h : St w n a5 a6 a7 s5 s6 s7 x) (h56 : a5 ≠ a6) (h57 : a5 ≠ a7) (g5 : w.heap.size + 3 ≤ a5) (lo hi : Int) : St w n a5 a6 a7 (lo, hi) s6 s7 ((x.setCell ⟨a5, 0, none⟩ (.int .i64 lo)).setCell ⟨a5, 1, none⟩ (.int .i64 hi)) :=
  ⟨blk_far (blk_far h.note ⟨a5, 0, none⟩ (by show w.heap.size ≠ a5; omega) _) ⟨a5, 1, none⟩ (by show w.heap.size ≠ a5; omega) _, h.s1.far (by omega) _ _, h.s2.far (by omega) _ _, h.h5.set lo hi, h.h6.far (Ne.symm h56) _ _, h.h7.far (Ne.symm h57) _ _,
    (h.below.setCell (p := ⟨a5, 0, none⟩) (by show w.heap.size ≤ a5; omega) _).setCell (p := ⟨a5, 1, none⟩) (by show w.heap.size ≤ a5; omega) _⟩
theorem St.set6 (h : St w n a5 a6 a7 s5 s6 s7 x) (h56 : a5 ≠ a6) (h67 : a6 ≠ a7) (g6 : w.heap.size + 3 ≤ a6) (lo hi : Int) : St w n a5 a6 a7 s5 (lo, hi) s7 ((x.setCell ⟨a6, 0, none⟩ (.int .i64 lo)).setCell ⟨a6, 1, none⟩ (.int .i64 hi)) :=
  ⟨blk_far (blk_far h.note ⟨a6, 0, none⟩ (by show w.heap.size ≠ a6; omega) _) ⟨a6, 1, none⟩ (by show w.heap.size ≠ a6; omega) _, h.s1.far (by omega) _ _, h.s2.far (by omega) _ _, h.h5.far h56 _ _, h.h6.set lo hi, h.h7.far (Ne.symm h67) _ _,
    (h.below.setCell (p := ⟨a6, 0, none⟩) (by show w.heap.size ≤ a6; omega) _).setCell (p := ⟨a6, 1, none⟩) (by show w.heap.size ≤ a6; omega) _⟩
theorem St.set7 (h : St w n a5 a6 a7 s5 s6 s7 x) (h57 : a5 ≠ a7) (h67 : a6 ≠ a7) (g7 : w.heap.size + 3 ≤ a7) (lo hi : Int) : St w n a5 a6 a7 s5 s6 (lo, hi) ((x.setCell ⟨a7, 0, none⟩ (.int .i64 lo)).setCell ⟨a7, 1, none⟩ (.int .i64 hi)) :=
  ⟨blk_far (blk_far h.note ⟨a7, 0, none⟩ (by show w.heap.size ≠ a7; omega) _) ⟨a7, 1, none⟩ (by show w.heap.size ≠ a7; omega) _, h.s1.far (by omega) _ _, h.s2.far (by omega) _ _, h.h5.far h57 _ _, h.h6.far h67 _ _, h.h7.set lo hi,
    (h.below.setCell (p := ⟨a7, 0, none⟩) (by show w.heap.size ≤ a7; omega) _).setCell (p := ⟨a7, 1, none⟩) (by show w.heap.size ≤ a7; omega) _⟩
end

/-- Equality of messages, which the walk does not open. -/
def eqm (x y : Value) : Sem Bool := Op.equalIn 10000 23 x y
theorem eqm_def (x y : Value) : Op.equalIn 10000 23 x y = eqm x y := rfl
attribute [local go_sem ↓] eqm_def
def txR (k : Int) : Int × Int := if k = 1 then (0, 0) else (0, 999)
def epR (k : Int) : Int × Int := if k = 2 ∨ k = 3 then (1, 1048576) else (0, 0)
def vR (k : Int) : Int × Int := if k = 2 then (1, 2) else if k = 5 then (0, 2) else (0, 0)
def zeroB (n : Nt) : Bool := decide (n.ki = 0 ∧ n.fr = 0 ∧ n.tt = 0 ∧ n.me = 0 ∧ n.s = ⟨#[]⟩)
def saidB (n : Nt) : Bool := if n.k = 1 then decide (1 ≤ n.ki) && decide (n.ki ≤ 4) && decide (n.fr < 8) && decide (n.tt < 8) && decide (1 ≤ n.me ∧ n.me ≤ 1048576) && decide (n.s.size ≤ 500) else zeroB n
def inR (r : Int × Int) (x : Int) : Bool := decide (r.1 ≤ x ∧ x ≤ r.2)
/-- Whether there may be such a note. -/
def rightB (n : Nt) : Bool := decide (1 ≤ n.k ∧ n.k ≤ 5) && (saidB n && decide (n.mob < 8) && inR (txR n.k) n.tx && inR (epR n.k) n.ep && inR (vR n.k) n.v)

theorem has_st {w : World} {n : Nt} {a5 a6 a7 : Nat} {s5 s6 s7 : Int × Int} {x : World} (h : St w n a5 a6 a7 s5 s6 s7 x) (r : Int × Int) (q : Int) (b : Bool) (hb : b = inR r q) : Calls Tryd.prog 30 #[.agg #[.int .i64 r.1, .int .i64 r.2], .int .i64 q] x fun e w' => e = .returned (.bool b) ∧ St w n a5 a6 a7 s5 s6 s7 w' := by
  refine (has_is r.1 r.2 q x).mono ?_
  rintro e w' ⟨rfl, hB⟩
  exact ⟨by rw [hb]; rfl, h.later hB⟩

theorem six (w : World) (o0 o1 o2 o3 o4 o5 : Obj) (x : World) (hx : x = ((((((w.alloc o0).alloc o1).alloc o2).alloc o3).alloc o4).alloc o5).drew) :
    x.heap[w.heap.size]? = some o0 ∧ x.heap[w.heap.size + 1]? = some o1 ∧ x.heap[w.heap.size + 1 + 1]? = some o2 ∧ x.heap[w.heap.size + 1 + 1 + 1]? = some o3 ∧ x.heap[w.heap.size + 1 + 1 + 1 + 1]? = some o4 ∧ x.heap[w.heap.size + 1 + 1 + 1 + 1 + 1]? = some o5 ∧ Below w.heap.size w x := by
  have h0 := World.alloc_heap_new w o0
  have h1 := World.alloc_heap_new (w.alloc o0) o1
  have h2 := World.alloc_heap_new ((w.alloc o0).alloc o1) o2
  have h3 := World.alloc_heap_new (((w.alloc o0).alloc o1).alloc o2) o3
  have h4 := World.alloc_heap_new ((((w.alloc o0).alloc o1).alloc o2).alloc o3) o4
  have h5 := World.alloc_heap_new (((((w.alloc o0).alloc o1).alloc o2).alloc o3).alloc o4) o5
  simp only [World.size_alloc] at h1 h2 h3 h4 h5
  have hB : Below w.heap.size w ((((((w.alloc o0).alloc o1).alloc o2).alloc o3).alloc o4).alloc o5) :=
    ((((((Below.refl _ w).alloc (Nat.le_refl _) _).alloc (by simp only [World.size_alloc]; omega) _).alloc (by simp only [World.size_alloc]; omega) _).alloc (by simp only [World.size_alloc]; omega) _).alloc (by simp only [World.size_alloc]; omega) _).alloc (by simp only [World.size_alloc]; omega) _
  subst hx
  exact ⟨blk_alloc (blk_alloc (blk_alloc (blk_alloc (blk_alloc h0 _) _) _) _) _, blk_alloc (blk_alloc (blk_alloc (blk_alloc h1 _) _) _) _, blk_alloc (blk_alloc (blk_alloc h2 _) _) _, blk_alloc (blk_alloc h3 _) _, blk_alloc h4 _, h5, ⟨hB.os, hB.tape, hB.output, hB.size, hB.block⟩⟩

set_option maxHeartbeats 2000000 in
theorem right_is (n : Nt) (w : World) : Calls Tryd.prog 8 #[NV n] w fun e w' => e = .returned (.bool (rightB n)) ∧ Below w.heap.size w w' := by
  obtain ⟨k, mob, tx, ep, v, ki, fr, tt, me, s⟩ := n
  unfold NV
  go_enter Tryd.func8, Tryd.ntmps8
  go_upto_region 2 with fail
  go_cut [5, 6, 7] from 12 to 14 (fun p5 p6 p7 wx => ∃ a5 a6 a7 : Nat, p5 = .pointer (some ⟨a5, 0, none⟩) ∧ p6 = .pointer (some ⟨a6, 0, none⟩) ∧ p7 = .pointer (some ⟨a7, 0, none⟩) ∧ a5 ≠ a6 ∧ a5 ≠ a7 ∧ a6 ≠ a7 ∧ w.heap.size + 3 ≤ a5 ∧ w.heap.size + 3 ≤ a6 ∧ w.heap.size + 3 ≤ a7 ∧ St w ⟨k, mob, tx, ep, v, ki, fr, tt, me, s⟩ a5 a6 a7 (0, 999) (0, 0) (0, 0) wx)
  case first =>
    go_region
    all_goals (go_wp2_with fail; go_meet)
    all_goals first
      | (obtain ⟨b0, b1, b2, b3, b4, b5, hB⟩ := six w (.cells #[.int .i64 k, .int .u8 mob, .int .i64 tx, .int .i64 ep, .int .i64 v, .int .i64 ki, .int .u8 fr, .int .u8 tt, .int .i64 me, .string s] 25) (.cells #[.int .i64 0, .int .i64 0] 92) (.cells #[.int .i64 1, .int .i64 1048576] 92) (.cells #[.int .i64 0, .int .i64 999] 92) (.cells #[.int .i64 0, .int .i64 0] 92) (.cells #[.int .i64 0, .int .i64 0] 92) _ rfl
         refine ⟨_, _, _, rfl, rfl, rfl, by omega, by omega, by omega, by omega, by omega, by omega, ⟨b0, b1, b2, ?_, ?_, ?_, hB⟩⟩
         all_goals (first | exact b3 | exact b4 | exact b5))
      | (obtain ⟨b0, b1, b2, b3, b4, b5, hB⟩ := six w (.cells #[.int .i64 k, .int .u8 mob, .int .i64 tx, .int .i64 ep, .int .i64 v, .int .i64 ki, .int .u8 fr, .int .u8 tt, .int .i64 me, .string s] 25) (.cells #[.int .i64 0, .int .i64 0] 92) (.cells #[.int .i64 1, .int .i64 1048576] 92) (.cells #[.int .i64 0, .int .i64 0] 92) (.cells #[.int .i64 0, .int .i64 999] 92) (.cells #[.int .i64 0, .int .i64 0] 92) _ rfl
         refine ⟨_, _, _, rfl, rfl, rfl, by omega, by omega, by omega, by omega, by omega, by omega, ⟨b0, b1, b2, ?_, ?_, ?_, hB⟩⟩
         all_goals (first | exact b3 | exact b4 | exact b5))
      | (obtain ⟨b0, b1, b2, b3, b4, b5, hB⟩ := six w (.cells #[.int .i64 k, .int .u8 mob, .int .i64 tx, .int .i64 ep, .int .i64 v, .int .i64 ki, .int .u8 fr, .int .u8 tt, .int .i64 me, .string s] 25) (.cells #[.int .i64 0, .int .i64 0] 92) (.cells #[.int .i64 1, .int .i64 1048576] 92) (.cells #[.int .i64 0, .int .i64 0] 92) (.cells #[.int .i64 0, .int .i64 0] 92) (.cells #[.int .i64 0, .int .i64 999] 92) _ rfl
         refine ⟨_, _, _, rfl, rfl, rfl, by omega, by omega, by omega, by omega, by omega, by omega, ⟨b0, b1, b2, ?_, ?_, ?_, hB⟩⟩
         all_goals (first | exact b3 | exact b4 | exact b5))
  case rest =>
    obtain ⟨a5, a6, a7, rfl, rfl, rfl, h56, h57, h67, g5, g6, g7, hSt⟩ := hcut
    obtain ⟨w3, hw3⟩ : ∃ w3, wc.alloc (.cells #[.int .i64 ki, .int .u8 fr, .int .u8 tt, .int .i64 me, .string s] 23) = w3 := ⟨_, rfl⟩
    have hz3 : w3.heap.size = wc.heap.size + 1 := by rw [← hw3]; simp
    have hB3 : Below wc.heap.size wc w3 := by rw [← hw3]; exact (Below.refl _ wc).alloc (Nat.le_refl _) _
    have hm3 : w3.heap[wc.heap.size]? = some (.cells #[.int .i64 ki, .int .u8 fr, .int .u8 tt, .int .i64 me, .string s] 23 (0, 0)) := by rw [← hw3]; exact World.alloc_heap_new wc _
    have hSt3 := hSt.later hB3
    have l5 := lt_of_heap hSt.h5
    have l6 := lt_of_heap hSt.h6
    have l7 := lt_of_heap hSt.h7
    obtain ⟨c0, c1, c2, c3, c4, c5, c6, c7, c8, c9⟩ := hSt.note_cells
    have HS3 := Lib.hid hSt3
    have HM3 := Lib.hid hm3
    have HW3 := Lib.hid hw3
    have HG := Lib.hid (And.intro h56 (And.intro h57 (And.intro h67 (And.intro g5 (And.intro g6 (And.intro g7 (And.intro l5 (And.intro l6 l7))))))))
    clear hSt hm3 hSt3 hw3 h56 h57 h67 g5 g6 g7 l5 l6 l7
    go_upto_region 4 with fail
    rw [HW3.out]
    clear c0 c1 c2 c3 c4 c5 c6 c7 c8 c9
    have m0 := blk_cell HM3.out 0
    have m1 := blk_cell HM3.out 1
    have m2 := blk_cell HM3.out 2
    have m3 := blk_cell HM3.out 3
    have m4 := blk_cell HM3.out 4
    simp at m0 m1 m2 m3 m4
    obtain ⟨c0, c1, c2, c3, c4, c5, c6, c7, c8, c9⟩ := HS3.out.note_cells
    obtain ⟨z, hz⟩ : ∃ z, z = zeroB ⟨k, mob, tx, ep, v, ki, fr, tt, me, s⟩ := ⟨_, rfl⟩
    have heq : (eqm (.agg #[.int .i64 ki, .int .u8 fr, .int .u8 tt, .int .i64 me, .string s]) (.agg #[.int .i64 0, .int .u8 0, .int .u8 0, .int .i64 0, .string ⟨#[]⟩])).run Tryd.prog w3 = .ok z w3 := by rw [hz]; exact eq23z w3 ki fr tt me s
    obtain ⟨p0, p1, p2, p3⟩ := HS3.out.s1.cells
    obtain ⟨q0, q1, q2, q3⟩ := HS3.out.s2.cells
    obtain ⟨r0, r1, r2, r3⟩ := HS3.out.h5.cells
    obtain ⟨y0, y1, y2, y3⟩ := HS3.out.h6.cells
    obtain ⟨z0, z1, z2, z3⟩ := HS3.out.h7.cells
    have HZ := Lib.hid hz
    clear hz
    obtain ⟨h56, h57, h67, g5, g6, g7, l5, l6, l7⟩ := HG.out
    go_upto_block 0 with fail
    go_cut [9] from 22 to 66 (fun p9 wx => p9 = .bool (saidB ⟨k, mob, tx, ep, v, ki, fr, tt, me, s⟩) ∧ St w ⟨k, mob, tx, ep, v, ki, fr, tt, me, s⟩ a5 a6 a7 (txR k) (epR k) (vR k) wx ∧ 1 ≤ k ∧ k ≤ 5)
    case first =>
      by_cases k1 : k = 1
      · subst k1
        go_upto_region 9 with fail
        obtain ⟨x1, hx1⟩ : ∃ x1, (w3.setCell ⟨a5, 0, none⟩ (.int .i64 0)).setCell ⟨a5, 1, none⟩ (.int .i64 0) = x1 := ⟨_, rfl⟩
        have hS1 := HS3.out.set5 h56 h57 g5 0 0
        have hM1 := blk_far (blk_far HM3.out ⟨a5, 0, none⟩ (by show wc.heap.size ≠ a5; omega) (.int .i64 0)) ⟨a5, 1, none⟩ (by show wc.heap.size ≠ a5; omega) (.int .i64 0)
        rw [hx1] at hS1 hM1 ⊢
        have HS1 := Lib.hid hS1
        have HM1 := Lib.hid hM1
        clear hx1 hS1 hM1 m0 m1 m2 m3 m4 c0 c1 c2 c3 c4 c5 c6 c7 c8 c9 p0 p1 p2 p3 q0 q1 q2 q3 r0 r1 r2 r3 y0 y1 y2 y3 z0 z1 z2 z3 heq
        have m0 := blk_cell HM1.out 0
        have m1 := blk_cell HM1.out 1
        have m2 := blk_cell HM1.out 2
        have m3 := blk_cell HM1.out 3
        have m4 := blk_cell HM1.out 4
        simp at m0 m1 m2 m3 m4
        obtain ⟨q0, q1, q2, q3⟩ := HS1.out.s2.cells
        by_cases e1 : 1 ≤ ki
        · by_cases e2 : ki ≤ 4
          · by_cases e3 : fr < 8
            · by_cases e4 : tt < 8
              · by_cases e5 : 1 ≤ me ∧ me ≤ 1048576
                · have hd5 : decide (1 ≤ me ∧ me ≤ 1048576) = true := decide_eq_true e5
                  have HH := Lib.hid (has_is 1 1048576 me x1)
                  rw [hd5] at HH
                  by_cases e6 : s.size ≤ 500
                  · have e6' : (s.size : Int) ≤ 500 := by omega
                    go_wp2_with fail
                    refine HH.out.mono ?_
                    rintro e wq ⟨rfl, hBq⟩
                    have n4 := blk_cell ((hBq.block _ (lt_of_heap HM1.out)).trans HM1.out) 4
                    simp at n4
                    have HSq := Lib.hid (HS1.out.later hBq)
                    clear hBq
                    go_wp2_with fail
                    go_meet
                    exact ⟨by simp [saidB, e1, e2, e3, e4, e5, e6], HSq.out, by decide, by decide⟩
                  · have e6' : ¬ (s.size : Int) ≤ 500 := by omega
                    go_wp2_with fail
                    refine HH.out.mono ?_
                    rintro e wq ⟨rfl, hBq⟩
                    have n4 := blk_cell ((hBq.block _ (lt_of_heap HM1.out)).trans HM1.out) 4
                    simp at n4
                    have HSq := Lib.hid (HS1.out.later hBq)
                    clear hBq
                    have hs0 : saidB ⟨1, mob, tx, ep, v, ki, fr, tt, me, s⟩ = false := by unfold saidB; rw [if_pos rfl]; simp only [decide_eq_false e6, Bool.and_false]
                    go_wp2_with fail
                    go_meet
                    exact ⟨by rw [hs0, decide_eq_false (show ¬ (s.size : Int) ≤ 500 by omega)], HSq.out, by decide, by decide⟩
                · have hd5 : decide (1 ≤ me ∧ me ≤ 1048576) = false := decide_eq_false e5
                  have HH := Lib.hid (has_is 1 1048576 me x1)
                  rw [hd5] at HH
                  have hs0 : saidB ⟨1, mob, tx, ep, v, ki, fr, tt, me, s⟩ = false := by unfold saidB; rw [if_pos rfl]; simp only [hd5, Bool.and_false, Bool.false_and]
                  clear e5
                  go_wp2_with fail
                  refine HH.out.mono ?_
                  rintro e wq ⟨rfl, hBq⟩
                  have HSq := Lib.hid (HS1.out.later hBq)
                  clear hBq
                  go_wp2_with fail
                  go_meet
                  exact ⟨by rw [hs0], HSq.out, by decide, by decide⟩
              · go_wp2_with fail
                go_meet
                exact ⟨(by simp [saidB]; intros; omega), HS1.out, by decide, by decide⟩
            · go_wp2_with fail
              go_meet
              exact ⟨(by simp [saidB]; intros; omega), HS1.out, by decide, by decide⟩
          · go_wp2_with fail
            go_meet
            exact ⟨(by simp [saidB]; intros; omega), HS1.out, by decide, by decide⟩
        · go_wp2_with fail
          go_meet
          exact ⟨(by simp [saidB]; intros; omega), HS1.out, by decide, by decide⟩
      · by_cases k2 : k = 2
        · subst k2
          go_wp2_with fail
          go_meet
          exact ⟨by rw [HZ.out]; rfl, (HS3.out.set6 h56 h67 g6 1 1048576).set7 h57 h67 g7 1 2, by decide, by decide⟩
        · by_cases k3 : k = 3
          · subst k3
            go_wp2_with fail
            go_meet
            exact ⟨by rw [HZ.out]; rfl, HS3.out.set6 h56 h67 g6 1 1048576, by decide, by decide⟩
          · by_cases k4 : k = 4
            · subst k4
              go_wp2_with fail
              go_meet
              exact ⟨by rw [HZ.out]; rfl, HS3.out, by decide, by decide⟩
            · by_cases k5 : k = 5
              · subst k5
                go_wp2_with fail
                go_meet
                exact ⟨by rw [HZ.out]; rfl, HS3.out.set7 h57 h67 g7 0 2, by decide, by decide⟩
              · go_wp2_with fail
                go_ret
                have hk : ¬ (1 ≤ k ∧ k ≤ 5) := by omega
                exact ⟨by rw [rightB, decide_eq_false hk]; rfl, HS3.out.below⟩
    case rest =>
      obtain ⟨rfl, hSt, hk1, hk5⟩ := hcut
      have hR : rightB ⟨k, mob, tx, ep, v, ki, fr, tt, me, s⟩ = (saidB ⟨k, mob, tx, ep, v, ki, fr, tt, me, s⟩ && decide (mob < 8) && inR (txR k) tx && inR (epR k) ep && inR (vR k) v) := by
        unfold rightB; rw [decide_eq_true (And.intro hk1 hk5)]; rfl
      clear m0 m1 m2 m3 m4 c0 c1 c2 c3 c4 c5 c6 c7 c8 c9 p0 p1 p2 p3 q0 q1 q2 q3 r0 r1 r2 r3 y0 y1 y2 y3 z0 z1 z2 z3 heq
      obtain ⟨sd, hsd⟩ : ∃ sd, sd = saidB ⟨k, mob, tx, ep, v, ki, fr, tt, me, s⟩ := ⟨_, rfl⟩
      obtain ⟨b1, hb1⟩ : ∃ b, b = inR (txR k) tx := ⟨_, rfl⟩
      obtain ⟨b2, hb2⟩ : ∃ b, b = inR (epR k) ep := ⟨_, rfl⟩
      obtain ⟨b3, hb3⟩ : ∃ b, b = inR (vR k) v := ⟨_, rfl⟩
      rw [← hsd, ← hb1, ← hb2, ← hb3] at hR
      rw [← hsd]
      have HR := Lib.hid hR
      have HB1 := Lib.hid hb1
      have HB2 := Lib.hid hb2
      have HB3 := Lib.hid hb3
      have HST := Lib.hid hSt
      clear hsd hR hb1 hb2 hb3
      obtain ⟨c0, c1, c2, c3, c4, c5, c6, c7, c8, c9⟩ := hSt.note_cells
      obtain ⟨r0, r1, r2, r3⟩ := hSt.h5.cells
      clear hSt
      cases sd with
      | false =>
        go_wp2_with fail
        go_ret
        exact ⟨by rw [HR.out]; simp, HST.out.below⟩
      | true =>
        by_cases em : mob < 8
        · go_wp2_with fail
          refine (has_st HST.out _ _ _ HB1.out).mono ?_
          rintro e w1 ⟨rfl, hS1⟩
          cases b1 with
          | false =>
            have HS1 := Lib.hid hS1
            clear hS1
            go_wp2_with fail
            go_ret
            exact ⟨by rw [HR.out]; simp, HS1.out.below⟩
          | true =>
            clear c0 c1 c2 c3 c4 c5 c6 c7 c8 c9 r0 r1 r2 r3
            obtain ⟨c0, c1, c2, c3, c4, c5, c6, c7, c8, c9⟩ := hS1.note_cells
            obtain ⟨r0, r1, r2, r3⟩ := hS1.h6.cells
            have HS1 := Lib.hid hS1
            clear hS1
            go_wp2_with fail
            refine (has_st HS1.out _ _ _ HB2.out).mono ?_
            rintro e w2 ⟨rfl, hS2⟩
            cases b2 with
            | false =>
              have HS2 := Lib.hid hS2
              clear hS2
              go_wp2_with fail
              go_ret
              exact ⟨by rw [HR.out]; simp, HS2.out.below⟩
            | true =>
              clear c0 c1 c2 c3 c4 c5 c6 c7 c8 c9 r0 r1 r2 r3
              obtain ⟨c0, c1, c2, c3, c4, c5, c6, c7, c8, c9⟩ := hS2.note_cells
              obtain ⟨r0, r1, r2, r3⟩ := hS2.h7.cells
              have HS2 := Lib.hid hS2
              clear hS2
              go_wp2_with fail
              refine (has_st HS2.out _ _ _ HB3.out).mono ?_
              rintro e w4 ⟨rfl, hS4⟩
              have HS4 := Lib.hid hS4
              clear hS4
              go_wp2_with fail
              go_ret
              exact ⟨by rw [HR.out]; simp [em], HS4.out.below⟩
        · go_wp2_with fail
          go_ret
          exact ⟨by rw [HR.out, decide_eq_false (show ¬ mob < 8 by omega)]; simp, HST.out.below⟩
end Go.Proofs.YtehgbpepaakanaaDoor
