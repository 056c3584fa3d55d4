/-
  The disk: own.
-/
import Derived.Test.YtehgbpepaakanaaDoorCh
namespace Go.Proofs.YtehgbpepaakanaaDoor
open Go.RowKit Go.Shelf
set_option linter.unusedVariables false
set_option linter.unusedSimpArgs false
set_option maxRecDepth 20000

attribute [local go_sem] Oper.semAt_some

/-- The box of a disk. -/
def DB (w : World) (B : Nat) (v : Value) (s r : Int) : Prop := w.heap[B]? = some (.cells #[v, .int .i64 s, .int .i64 r] 67 (0, 0))
theorem DB.cells {w : World} {B : Nat} {v : Value} {s r : Int} (h : DB w B v s r) : w.cell? ⟨B, 0, none⟩ = some v ∧ w.cell? ⟨B, 1, none⟩ = some (.int .i64 s) ∧ w.cell? ⟨B, 2, none⟩ = some (.int .i64 r) ∧
    w.frozen? ⟨B, 0, none⟩ = false ∧ w.frozen? ⟨B, 1, none⟩ = false ∧ w.frozen? ⟨B, 2, none⟩ = false := by
  have h0 := blk_cell h 0
  have h1 := blk_cell h 1
  have h2 := blk_cell h 2
  simp at h0 h1 h2
  exact ⟨h0, h1, h2, blk_frozen h 0, blk_frozen h 1, blk_frozen h 2⟩
theorem DB.set0 {w : World} {B : Nat} {v : Value} {s r : Int} (h : DB w B v s r) (u : Value) : DB (w.setCell ⟨B, 0, none⟩ u) B u s r := by simpa [DB] using blk_set h 0 u
theorem DB.set1 {w : World} {B : Nat} {v : Value} {s r : Int} (h : DB w B v s r) (u : Int) : DB (w.setCell ⟨B, 1, none⟩ (.int .i64 u)) B v u r := by simpa [DB] using blk_set h 1 (.int .i64 u)
theorem DB.set2 {w : World} {B : Nat} {v : Value} {s r : Int} (h : DB w B v s r) (u : Int) : DB (w.setCell ⟨B, 2, none⟩ (.int .i64 u)) B v s u := by simpa [DB] using blk_set h 2 (.int .i64 u)
theorem DB.upd {w w' : World} {B : Nat} {v : Value} {s r : Int} (h : DB w B v s r) {S : Nat → Prop} (hu : Upd S w w') (hn : ¬ S B) : DB w' B v s r := hu.heap h hn
theorem DB.far {w : World} {B : Nat} {v : Value} {s r : Int} (h : DB w B v s r) (p : Addr) (hp : B ≠ p.block) (u : Value) : DB (w.setCell p u) B v s r := blk_far h p hp u
theorem DB.new (w : World) (v : Value) (s r : Int) : DB (w.alloc (.cells #[v, .int .i64 s, .int .i64 r] 67)) w.heap.size v s r := World.alloc_heap_new w _

set_option maxHeartbeats 1000000 in
theorem own46 (a : Option Addr) (m d : Nat) (bs : List Int) (s r : Int) (w : World) (h : BR w a m d bs) (hm : m ≤ 140737488351232) :
    Calls Tryd.prog 46 #[.agg #[.slice a m d, .int .i64 s, .int .i64 r], .int .i64 m] w fun e w' => ∃ a' d', e = .returned (.agg #[.slice a' m d', .int .i64 (min s m), .int .i64 r]) ∧ BS w' (.slice a' m d') bs ∧ (∀ k, (Value.slice a' m d').ownBlock = some k → w.heap.size ≤ k) ∧ Below w.heap.size w w' := by
  obtain ⟨w2, hw2⟩ : ∃ w2, (w.alloc (.cells #[.slice a m d, .int .i64 s, .int .i64 r] 67)).alloc (.cells #[.slice none 0 0, .int .i64 0, .int .i64 0] 67) = w2 := ⟨_, rfl⟩
  have hB : Below w.heap.size w w2 := by rw [← hw2]; exact ((Below.refl _ w).alloc (Nat.le_refl _) _).alloc (by simp) _
  have hb1 : DB w2 w.heap.size (.slice a m d) s r := by rw [← hw2]; exact blk_alloc (World.alloc_heap_new w _) _
  have hb2 : DB w2 (w.heap.size + 1) (.slice none 0 0) 0 0 := by rw [← hw2]; have := World.alloc_heap_new (w.alloc (.cells #[.slice a m d, .int .i64 s, .int .i64 r] 67)) (.cells #[.slice none 0 0, .int .i64 0, .int .i64 0] 67); rwa [World.size_alloc] at this
  have hlen := h.len
  have hmd : m ≤ d := by rcases h with ⟨h1, h2, _⟩ | ⟨_, _, _, _, _, h, _⟩ <;> omega
  have hmd2 : (m : Int) ≤ (d : Int) := by omega
  have hc := Lib.hid (cloneB a m d bs w2 (h.below hB) hm)
  have hl1 := lt_of_heap hb1
  have hl2 := lt_of_heap hb2
  obtain ⟨x0, x1, x2, -⟩ := hb1.cells
  have HLen := Lib.hid hlen
  have hmn : min (m : Int) (m : Int) = m := Int.min_self _
  have hmx : max (0 : Int) (m : Int) = m := by omega
  have H1 := Lib.hid hb1
  have H2 := Lib.hid hb2
  clear h hlen hb1 hb2
  go_enter Tryd.func46, Tryd.ntmps46
  go_wp2_with fail
  refine hc.out.mono ?_
  rintro e w3 ⟨v', rfl, hS, hk, hB3⟩
  obtain ⟨a', d', rfl⟩ := hS.slice
  rw [HLen.out] at hS hk ⊢
  have hb13 : DB w3 w.heap.size (.slice a m d) s r := (hB3.block _ hl1).trans H1.out
  have hb23 : DB w3 (w.heap.size + 1) (.slice none 0 0) 0 0 := (hB3.block _ hl2).trans H2.out
  obtain ⟨p0, p1, p2, q0, q1, q2⟩ := hb13.cells
  obtain ⟨y0, y1, y2, z0, z1, z2⟩ := hb23.cells
  clear x0 x1 x2
  have HS := Lib.hid hS
  have HK := Lib.hid hk
  have H13 := Lib.hid hb13
  have H23 := Lib.hid hb23
  clear hS hk hb13 hb23 hw2
  go_wp2_with fail
  have hD : DB _ (w.heap.size + 1) _ _ _ := (((((H23.out.far ⟨w.heap.size, 0, none⟩ (by show w.heap.size + 1 ≠ w.heap.size; omega) (.slice a' m d')).far ⟨w.heap.size, 1, none⟩ (by show w.heap.size + 1 ≠ w.heap.size; omega) (.int .i64 (min s m))).set0 (.slice a' m d')).set1 (min s m)).set2 r)
  have hU : Upd (fun k => k = w.heap.size ∨ k = w.heap.size + 1) w3 _ := (((((Upd.refl (fun k => k = w.heap.size ∨ k = w.heap.size + 1) w3).setCell ⟨w.heap.size, 0, none⟩ (.slice a' m d') (fun _ => .inl rfl)).setCell ⟨w.heap.size, 1, none⟩ (.int .i64 (min s m)) (fun _ => .inl rfl)).setCell ⟨w.heap.size + 1, 0, none⟩ (.slice a' m d') (fun _ => .inr rfl)).setCell ⟨w.heap.size + 1, 1, none⟩ (.int .i64 (min s m)) (fun _ => .inr rfl)).setCell ⟨w.heap.size + 1, 2, none⟩ (.int .i64 r) (fun _ => .inr rfl)
  obtain ⟨e0, e1, e2, -⟩ := hD.cells
  have hz2 := hB.size
  refine bodyPost_ret (v := .agg #[.slice a' m d', .int .i64 (min s m), .int .i64 r]) (by simp [results, Tryd.results46, go_sem, e0, e1, e2]) rfl ⟨a', d', rfl, HS.out.upd hU ?_, fun k h => Nat.le_trans hz2 (HK.out k h), ?_⟩
  · rintro k h (e | e)
    · have := HK.out k h; omega
    · have := HK.out k h; omega
  · exact (hB.trans (hB3.mono hz2)).trans (hU.below (Nat.le_trans hz2 hB3.size) (fun i hi h => by omega))
end Go.Proofs.YtehgbpepaakanaaDoor
