/-
  note.Decode.
-/
import Derived.Test.YtehgbpepaakanaaDoorEd
namespace Go.Proofs.YtehgbpepaakanaaDoor
open Go.RowKit Go.Shelf
set_option linter.unusedVariables false
set_option linter.unusedSimpArgs false
set_option maxRecDepth 20000

attribute [local go_sem] Oper.semAt_some

def N0 : Nt := ⟨0, 0, 0, 0, 0, 0, 0, 0, 0, ⟨#[]⟩⟩

theorem note_store {w : World} {B : Nat} {cs : Array Value} (h : w.heap[B]? = some (.cells cs 25 (0, 0))) (hs : cs.size = 10) (k mob tx ep v ki fr tt me : Int) (s : ByteArray) (w' : World)
    (hw : w' = (((((((((w.setCell ⟨B, 0, none⟩ (.int .i64 k)).setCell ⟨B, 1, none⟩ (.int .u8 mob)).setCell ⟨B, 2, none⟩ (.int .i64 tx)).setCell ⟨B, 3, none⟩ (.int .i64 ep)).setCell ⟨B, 4, none⟩ (.int .i64 v)).setCell ⟨B, 5, none⟩ (.int .i64 ki)).setCell ⟨B, 6, none⟩ (.int .u8 fr)).setCell ⟨B, 7, none⟩ (.int .u8 tt)).setCell ⟨B, 8, none⟩ (.int .i64 me)).setCell ⟨B, 9, none⟩ (.string s)) :
    w'.heap[B]? = some (.cells (NC ⟨k, mob, tx, ep, v, ki, fr, tt, me, s⟩) 25 (0, 0)) ∧ Upd (fun i => i = B) w w' := by
  obtain ⟨l, rfl⟩ : ∃ l, cs = Array.mk l := ⟨cs.toList, rfl⟩
  simp at hs
  match l, hs with
  | [x0, x1, x2, x3, x4, x5, x6, x7, x8, x9], _ =>
  have := blk_set (blk_set (blk_set (blk_set (blk_set (blk_set (blk_set (blk_set (blk_set (blk_set h 0 (.int .i64 k)) 1 (.int .u8 mob)) 2 (.int .i64 tx)) 3 (.int .i64 ep)) 4 (.int .i64 v)) 5 (.int .i64 ki)) 6 (.int .u8 fr)) 7 (.int .u8 tt)) 8 (.int .i64 me)) 9 (.string s)
  subst hw
  refine ⟨by simpa [NC] using this, ?_⟩
  exact ((((((((((Upd.refl (fun i => i = B) w).setCell ⟨B, 0, none⟩ _ (fun _ => rfl)).setCell ⟨B, 1, none⟩ _ (fun _ => rfl)).setCell ⟨B, 2, none⟩ _ (fun _ => rfl)).setCell ⟨B, 3, none⟩ _ (fun _ => rfl)).setCell ⟨B, 4, none⟩ _ (fun _ => rfl)).setCell ⟨B, 5, none⟩ _ (fun _ => rfl)).setCell ⟨B, 6, none⟩ _ (fun _ => rfl)).setCell ⟨B, 7, none⟩ _ (fun _ => rfl)).setCell ⟨B, 8, none⟩ _ (fun _ => rfl)).setCell ⟨B, 9, none⟩ _ (fun _ => rfl)

theorem note_cellsX {x : World} {B : Nat} {n : Nt} (h : x.heap[B]? = some (.cells (NC n) 25 (0, 0))) :
    x.cell? ⟨B, 0, none⟩ = some (.int .i64 n.k) ∧ x.cell? ⟨B, 1, none⟩ = some (.int .u8 n.mob) ∧ x.cell? ⟨B, 2, none⟩ = some (.int .i64 n.tx) ∧ x.cell? ⟨B, 3, none⟩ = some (.int .i64 n.ep) ∧ x.cell? ⟨B, 4, none⟩ = some (.int .i64 n.v) ∧
    x.cell? ⟨B, 5, none⟩ = some (.int .i64 n.ki) ∧ x.cell? ⟨B, 6, none⟩ = some (.int .u8 n.fr) ∧ x.cell? ⟨B, 7, none⟩ = some (.int .u8 n.tt) ∧ x.cell? ⟨B, 8, none⟩ = some (.int .i64 n.me) ∧ x.cell? ⟨B, 9, none⟩ = some (.string n.s) := by
  refine ⟨?_, ?_, ?_, ?_, ?_, ?_, ?_, ?_, ?_, ?_⟩ <;> rw [blk_cell h] <;> rfl
theorem note_frozen {x : World} {B : Nat} {cs : Array Value} (h : x.heap[B]? = some (.cells cs 25 (0, 0))) :
    x.frozen? ⟨B, 0, none⟩ = false ∧ x.frozen? ⟨B, 1, none⟩ = false ∧ x.frozen? ⟨B, 2, none⟩ = false ∧ x.frozen? ⟨B, 3, none⟩ = false ∧ x.frozen? ⟨B, 4, none⟩ = false ∧
    x.frozen? ⟨B, 5, none⟩ = false ∧ x.frozen? ⟨B, 6, none⟩ = false ∧ x.frozen? ⟨B, 7, none⟩ = false ∧ x.frozen? ⟨B, 8, none⟩ = false ∧ x.frozen? ⟨B, 9, none⟩ = false := by
  refine ⟨?_, ?_, ?_, ?_, ?_, ?_, ?_, ?_, ?_, ?_⟩ <;> exact blk_frozen h _

set_option maxHeartbeats 1000000 in
/-- A frame whose sum is wrong. -/
theorem dec_bad (b off m d : Nat) (cs : List Int) (w : World) (hb : b < w.heap.size) (hlen : cs.length = m) (hd : m ≤ d) (hd2 : (d : Int) ≤ 9223372036854775807)
    (hc : ∀ j x, cs[j]? = some x → w.cell? ⟨b, off + j, none⟩ = some (.int .u8 x)) (hB : Byts cs)
    (c1 c2 : Int) (e : Nat) (h0 : cs[0]? = some 1) (h1 : cs[1]? = some c1) (h2 : cs[2]? = some c2) (he : (e : Int) = 3 + c1 * 256 + c2) (he0 : 3 < e) (he1 : e ≤ 4003) (he2 : e + 4 ≤ m)
    (t0 t1 t2 t3 : Int) (g0 : cs[e]? = some t0) (g1 : cs[e + 1]? = some t1) (g2 : cs[e + 2]? = some t2) (g3 : cs[e + 3]? = some t3) (hne : [t0, t1, t2, t3] ≠ tl4 (sumOf (cs.take e))) :
    Calls Tryd.prog 13 #[.slice (some ⟨b, off, none⟩) m d] w fun x w' => x = .returned (.tuple #[NV N0, .int .i64 4]) ∧ Below w.heap.size w w' := by
  obtain ⟨w2, hw2⟩ : ∃ w2, w.alloc (.cells (NC N0) 25) = w2 := ⟨_, rfl⟩
  have hB2 : Below w.heap.size w w2 := by rw [← hw2]; exact (Below.refl _ w).alloc (Nat.le_refl _) _
  have hb2 : w2.heap[w.heap.size]? = some (.cells (NC N0) 25 (0, 0)) := by rw [← hw2]; exact World.alloc_heap_new w _
  have hF := first_is b off m d cs w2 (Nat.lt_of_lt_of_le hb hB2.size) hlen hd hd2 (fun j x hx => (hB2.cell (p := ⟨b, off + j, none⟩) hb).trans (hc j x hx)) hB c1 c2 e h0 h1 h2 he he0 he1 he2 t0 t1 t2 t3 g0 g1 g2 g3
  have HF : Hid (Calls Tryd.prog 36 #[.slice (some ⟨b, off, none⟩) m d] w2 fun x w' => x = .returned (.tuple #[.slice none 0 0, .int .i64 0, .int .i64 5]) ∧ Below w2.heap.size w2 w') := by
    refine hF.mono ?_
    rintro x w' ⟨h, hBe⟩
    rcases h with ⟨he, -⟩ | ⟨-, h⟩
    · exact absurd he hne
    · exact ⟨h, hBe⟩
  have H2 := Lib.hid hb2
  have HW2 := Lib.hid hw2
  have hl2 := lt_of_heap hb2
  clear hF hc h0 h1 h2 he g0 g1 g2 g3 hne hb2 hw2
  simp only [NV, NC, N0] at HW2 ⊢
  go_enter Tryd.func13, Tryd.ntmps13
  go_upto_region 1 with fail
  rw [HW2.out]
  go_upto_region 3 with (go_at_call 36; refine HF.out.mono ?_; rintro x w3 ⟨rfl, hB3⟩)
  have hb3 := (hB3.block _ hl2).trans H2.out
  obtain ⟨y0, y1, y2, y3, y4, y5, y6, y7, y8, y9⟩ := note_cellsX hb3
  obtain ⟨z0, z1, z2, z3, z4, z5, z6, z7, z8, z9⟩ := note_frozen hb3
  have H3 := Lib.hid hb3
  have HB3 := Lib.hid (hB2.trans (hB3.mono hB2.size))
  clear hB3 hb3
  go_wp2_with fail
  obtain ⟨hs, hU⟩ := note_store H3.out rfl 0 0 0 0 0 0 0 0 0 ⟨#[]⟩ _ rfl
  obtain ⟨e0, e1, e2, e3, e4, e5, e6, e7, e8, e9⟩ := note_cellsX hs
  refine bodyPost_ret (v := .tuple #[.agg #[.int .i64 0, .int .u8 0, .int .i64 0, .int .i64 0, .int .i64 0, .int .i64 0, .int .u8 0, .int .u8 0, .int .i64 0, .string ⟨#[]⟩], .int .i64 4]) (by simp [results, Tryd.results13, go_sem, e0, e1, e2, e3, e4, e5, e6, e7, e8, e9]) rfl ⟨rfl, ?_⟩
  exact HB3.out.trans (hU.below HB3.out.size (fun i hi h => by omega))

theorem num_is (B g o c : Nat) (i : Nat) (x : Int) (w : World) (hi : i < 10) (hc : 10 ≤ c) (hb : w.cell? ⟨B, 0, none⟩ = some (.slice (some ⟨g, o, none⟩) 10 c)) (hx : w.cell? ⟨g, o + i * 2, none⟩ = some (.int .u64 x)) (h0 : 0 ≤ x) (h1 : x < 4294967296) :
    Calls Tryd.prog 38 #[.int .i64 i, .pointer (some ⟨B, 0, none⟩)] w fun e w' => e = .returned (.int .i64 x) ∧ w' = w := by
  have hi' : (i : Int) < 10 := by omega
  go_enter Tryd.func38, Tryd.ntmps38
  go_wp2_with fail
  go_ret
  exact ⟨rfl, rfl⟩

theorem vals_read {w : World} {a : Option Addr} {c : Nat} {B : Nat} {vs : List CV} (h : w.ownsRow B 83 2 (.slice a 10 c) 10 (cellsOf encCV vs)) (hl : vs.length = 10) :
    ∃ g, a = some ⟨g, 0, none⟩ ∧ 10 ≤ c ∧ g < w.heap.size ∧ B ≤ g ∧ ∀ j x, vs[j]? = some x → w.cell? ⟨g, j * 2, none⟩ = some (.int .u64 x.n) ∧ w.cell? ⟨g, j * 2 + 1, none⟩ = some (.string x.s) := by
  rcases h.2 with ⟨h0, h1⟩ | ⟨g, cap, cur, hv, hg, hcur, hnc, hcm, hsz, htake⟩
  · exact absurd h1 (by decide)
  · simp only [Value.slice.injEq] at hv
    obtain ⟨rfl, -, rfl⟩ := hv
    have hk : ∀ j, j < vs.length * 2 → w.cell? ⟨g, j, none⟩ = (cellsOf encCV vs)[j]? := by
      intro j hj
      rw [blk_cell hcur, ← htake, List.getElem?_take, if_pos (by omega), Array.getElem?_toList]
    refine ⟨g, rfl, hnc, lt_of_heap hcur, hg, fun j x hx => ?_⟩
    have hj : j < vs.length := (List.getElem?_eq_some_iff.1 hx).1
    have e0 := cellsOf_at encCV 2 encCV_len vs j 0 x hx (by decide)
    have e1 := cellsOf_at encCV 2 encCV_len vs j 1 x hx (by decide)
    exact ⟨(hk _ (by omega)).trans e0, (hk _ (by omega)).trans e1⟩

end Go.Proofs.YtehgbpepaakanaaDoor
