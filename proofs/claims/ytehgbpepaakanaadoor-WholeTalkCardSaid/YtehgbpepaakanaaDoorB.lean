/-
  Bytes: slices.Clone; a letter of its own.
-/
import Derived.Test.YtehgbpepaakanaaDoorR
import Derived.Lib.Walk
import Derived.Lib.SliceRun
namespace Go.Proofs.YtehgbpepaakanaaDoor
open Go.RowKit
set_option linter.unusedVariables false
set_option maxRecDepth 20000
set_option linter.unusedSimpArgs false

theorem Tryd.infoB : (Tryd.prog.info? 5).map (fun i => (i.zero, i.size, i.bytes)) = some (some (.int .u8 0), 1, 1) := by kernel_rfl
theorem Tryd.noB (w : World) (a : Option Addr) (n c : Nat) : (binOp .eql 28 (.slice a n c) (.slice none 0 0)).run Tryd.prog w = .ok (.bool a.isNone) w := Lib.run_eql_slice_nil w _ _ a n c 0 0 Tryd.underlying28

def encB (x : Int) : List Value := [.int .u8 x]
theorem encB_len (x : Int) : (encB x).length = 1 := rfl
theorem encB_one (zs : List Int) : ∀ u ∈ cellsOf encB zs, u.oneCell' = true := by
  intro u hu
  obtain ⟨x, _, hx⟩ := List.mem_flatMap.1 hu
  simp [encB] at hx
  subst hx
  rfl

/-- A slice of bytes that owns its row. -/
def BS (w : World) (v : Value) (bs : List Int) : Prop := w.ownsRow 0 5 1 v bs.length (cellsOf encB bs)
/-- A slice of bytes that can be read: nil, or m bytes at an address. -/
def BR (w : World) (a : Option Addr) (m d : Nat) (bs : List Int) : Prop :=
  (m = 0 ∧ d = 0 ∧ bs = []) ∨ ∃ b off, a = some ⟨b, off, none⟩ ∧ b < w.heap.size ∧ bs.length = m ∧ m ≤ d ∧ (d : Int) ≤ 9223372036854775807 ∧ ∀ j x, bs[j]? = some x → w.cell? ⟨b, off + j, none⟩ = some (.int .u8 x)

theorem BR.below {w w' : World} {a : Option Addr} {m d : Nat} {bs : List Int} (h : BR w a m d bs) (hb : Below w.heap.size w w') : BR w' a m d bs := by
  rcases h with h | ⟨b, off, e, hlt, hl, hd, hm, hc⟩
  · exact .inl h
  · exact .inr ⟨b, off, e, Nat.lt_of_lt_of_le hlt hb.size, hl, hd, hm, fun j x hx => (hb.cell (p := ⟨b, off + j, none⟩) hlt).trans (hc j x hx)⟩
theorem BR.len {w : World} {a : Option Addr} {m d : Nat} {bs : List Int} (h : BR w a m d bs) : bs.length = m := by
  rcases h with ⟨rfl, _, rfl⟩ | ⟨b, off, e, hlt, hl, _⟩
  · rfl
  · exact hl

theorem BS.slice {w : World} {v : Value} {bs : List Int} (h : BS w v bs) : ∃ a d, v = .slice a bs.length d := by
  rcases h.2 with ⟨rfl, h0⟩ | ⟨g, cap, cur, rfl, _⟩
  · exact ⟨none, 0, by rw [h0]⟩
  · exact ⟨_, _, rfl⟩

theorem BS.read {w : World} {a : Option Addr} {m d : Nat} {bs : List Int} (h : BS w (.slice a m d) bs) : BR w a m d bs := by
  rcases h.2 with ⟨h0, h1⟩ | ⟨g, cap, cur, hv, hb, hcur, hnc, hcm, hsz, htake⟩
  · simp only [Value.slice.injEq] at h0
    exact .inl ⟨h0.2.1, h0.2.2, List.length_eq_zero_iff.1 h1⟩
  · simp only [Value.slice.injEq] at hv
    obtain ⟨rfl, rfl, rfl⟩ := hv
    refine .inr ⟨g, 0, rfl, lt_of_heap hcur, rfl, hnc, by simp only [maxLen] at hcm; omega, fun j x hx => ?_⟩
    have hj : j < bs.length := (List.getElem?_eq_some_iff.1 hx).1
    have := cellsOf_at encB 1 encB_len bs j 0 x hx (by omega)
    rw [blk_cell hcur, Nat.zero_add]
    rw [← htake, List.getElem?_take, if_pos (by omega)] at this
    simpa [encB] using this

theorem BS.upd {w w' : World} {v : Value} {bs : List Int} (h : BS w v bs) {S : Nat → Prop} (hu : Upd S w w') (hn : ∀ k, v.ownBlock = some k → ¬ S k) : BS w' v bs := ownsRow_upd h hu hn
theorem BS.lt {w : World} {v : Value} {bs : List Int} (h : BS w v bs) : ∀ k, v.ownBlock = some k → k < w.heap.size := fun k hk => (World.ownsRow.lt h k hk).2

set_option maxHeartbeats 1000000 in
/-- slices.Clone of bytes: a row of its own, or nil of nil. -/
theorem cloneB (a : Option Addr) (m d : Nat) (bs : List Int) (w : World) (h : BR w a m d bs) (hm : m ≤ 140737488351232) :
    Calls Tryd.prog 55 #[.slice a m d] w fun e w' => ∃ v', e = .returned v' ∧ BS w' v' bs ∧ (∀ k, v'.ownBlock = some k → w.heap.size ≤ k) ∧ Below w.heap.size w w' := by
  obtain ⟨i0, hi0, hz0, hz1, hz2⟩ := info_parts Tryd.infoB
  have hq := Tryd.noB
  rcases h with ⟨rfl, rfl, rfl⟩ | ⟨b, off, rfl, hlt, hl, hd, hdm, hc⟩
  · cases a with
    | none =>
      go_enter Tryd.func55, Tryd.ntmps55
      go_wp2
      go_ret
      exact ⟨_, rfl, World.ownsRow_nil _ _ _ _, fun k hk => by simp [Value.ownBlock] at hk, Below.refl _ _⟩
    | some x =>
      go_enter Tryd.func55, Tryd.ntmps55
      go_wp2_with (at_builtin; refine wpList_append_own _ rfl _ _ 28 rfl w.heap.size 5 i0 (.int .u8 0) 1 1 Tryd.underlying28 hi0 hz0 hz1 hz2 rfl (by decide) _ _ _ rfl (World.ownsRow_made w #[] 0 (Nat.le_refl _) (Nat.zero_le _) rfl) x 0 0 [] rfl ?qc1 ?qc2 ?qc3 ?qc4 ?qc5 ?qc6 ?_)
      case qc1 => rfl
      case qc2 => intro j u hj; simp at hj
      case qc3 => simp
      case qc4 => unfold maxLen; omega
      case qc5 => omega
      case qc6 => simp
      intro v' w1 hown hgrow hnil
      go_wp2
      go_ret
      refine ⟨v', rfl, ?_, fun k hk => (hown.lt k hk).1, ?_⟩
      · exact ownsRow_base hown (fun _ _ => Nat.zero_le _)
      · exact ((Below.refl _ w).alloc (Nat.le_refl _) _).grown hgrow (by simp) (by intro k hk; simp [Value.ownBlock] at hk; omega)
  · have hcells : ∀ j u, (cellsOf encB bs)[j]? = some u → w.cell? ⟨b, off + j, none⟩ = some u := by
      intro j u hu
      have hj : j < bs.length := by have := (List.getElem?_eq_some_iff.1 hu).1; rw [cellsOf_length encB 1 encB_len] at this; omega
      obtain ⟨x, hx⟩ : ∃ x, bs[j]? = some x := ⟨_, List.getElem?_eq_getElem hj⟩
      have := cellsOf_at encB 1 encB_len bs j 0 x hx (by omega)
      simp [encB] at this
      rw [this] at hu
      cases hu
      exact hc j x hx
    have HC := Lib.hid hcells
    have HL : Hid ((cellsOf encB bs).length = m * 1) := by rw [Hid, cellsOf_length encB 1 encB_len, hl]
    have H1 : Hid (∀ u ∈ cellsOf encB bs, u.oneCell' = true) := encB_one bs
    have HN := Lib.hid hl
    clear hcells hc hl
    go_enter Tryd.func55, Tryd.ntmps55
    go_wp2_with (at_builtin; refine wpList_append_own _ rfl _ _ 28 rfl w.heap.size 5 i0 (.int .u8 0) 1 1 Tryd.underlying28 hi0 hz0 hz1 hz2 rfl (by decide) _ _ _ rfl (World.ownsRow_made w #[] 0 (Nat.le_refl _) (Nat.zero_le _) rfl) ⟨b, off, none⟩ m d (cellsOf encB bs) rfl ?qc1 ?qc2 ?qc3 ?qc4 ?qc5 ?qc6 ?_)
    case qc1 => exact HL.out
    case qc2 =>
      intro j u hj
      rw [Addr.add_lit]
      exact Lib.cell?_alloc_some _ (HC.out j u hj)
    case qc3 => exact H1.out
    case qc4 => unfold maxLen; omega
    case qc5 => omega
    case qc6 => simp
    intro v' w1 hown hgrow hnil
    go_wp2
    go_ret
    refine ⟨v', rfl, ?_, fun k hk => (hown.lt k hk).1, ?_⟩
    · rw [BS, HN.out]; exact ownsRow_base hown (fun _ _ => Nat.zero_le _)
    · exact ((Below.refl _ w).alloc (Nat.le_refl _) _).grown hgrow (by simp) (by intro k hk; simp [Value.ownBlock] at hk; omega)

set_option maxHeartbeats 1000000 in
/-- own: a letter with bytes of its own. -/
theorem own_is (f t : Int) (a : Option Addr) (m d : Nat) (bs : List Int) (w : World) (h : BR w a m d bs) (hm : m ≤ 140737488351232) :
    Calls Tryd.prog 33 #[.agg #[.int .u8 f, .int .u8 t, .slice a m d]] w fun e w' => ∃ a' d', e = .returned (.agg #[.int .u8 f, .int .u8 t, .slice a' m d']) ∧ BS w' (.slice a' m d') bs ∧ (∀ k, (Value.slice a' m d').ownBlock = some k → w.heap.size ≤ k) ∧ Below w.heap.size w w' := by
  obtain ⟨w2, hw2⟩ : ∃ w2, (w.alloc (.cells #[.int .u8 f, .int .u8 t, .slice a m d] 37)).alloc (.cells #[.int .u8 0, .int .u8 0, .slice none 0 0] 37) = w2 := ⟨_, rfl⟩
  have hB : Below w.heap.size w w2 := by rw [← hw2]; exact ((Below.refl _ w).alloc (Nat.le_refl _) _).alloc (by simp) _
  have hb1 : w2.heap[w.heap.size]? = some (.cells #[.int .u8 f, .int .u8 t, .slice a m d] 37 (0, 0)) := by rw [← hw2]; exact blk_alloc (heap_alloc_new w _) _
  have hb2 : w2.heap[w.heap.size + 1]? = some (.cells #[.int .u8 0, .int .u8 0, .slice none 0 0] 37 (0, 0)) := by rw [← hw2]; have := heap_alloc_new (w.alloc (.cells #[.int .u8 f, .int .u8 t, .slice a m d] 37)) (.cells #[.int .u8 0, .int .u8 0, .slice none 0 0] 37); rwa [World.size_alloc] at this
  have hlen := h.len
  have hc := Lib.hid (cloneB a m d bs w2 (h.below hB) hm)
  have hl1 := lt_of_heap hb1
  have hl2 := lt_of_heap hb2
  have x0 := blk_cell hb1 0
  have x1 := blk_cell hb1 1
  have x2 := blk_cell hb1 2
  simp at x0 x1 x2
  have HLen := Lib.hid hlen
  clear h hlen
  go_enter Tryd.func33, Tryd.ntmps33
  go_wp2_with fail
  refine hc.out.mono ?_
  rintro e w3 ⟨v', rfl, hS, hk, hB3⟩
  obtain ⟨a', d', rfl⟩ := hS.slice
  rw [HLen.out] at hS hk ⊢
  have hb13 := (hB3.block _ hl1).trans hb1
  have hb23 := (hB3.block _ hl2).trans hb2
  obtain ⟨w4, hw4⟩ : ∃ w4, w3.setCell ⟨w.heap.size, 2, none⟩ (.slice a' m d') = w4 := ⟨_, rfl⟩
  have hb14 : w4.heap[w.heap.size]? = some (.cells #[.int .u8 f, .int .u8 t, .slice a' m d'] 37 (0, 0)) := by rw [← hw4]; simpa using blk_set hb13 2 (.slice a' m d')
  have hb24 : w4.heap[w.heap.size + 1]? = some (.cells #[.int .u8 0, .int .u8 0, .slice none 0 0] 37 (0, 0)) := by rw [← hw4]; exact blk_far hb23 ⟨w.heap.size, 2, none⟩ (by show w.heap.size + 1 ≠ w.heap.size; omega) _
  have hS4 : BS w4 (.slice a' m d') bs := by rw [← hw4]; exact hS.upd ((Upd.refl (fun k => k = w.heap.size) w3).setCell ⟨w.heap.size, 2, none⟩ _ (fun _ => rfl)) (fun k h e => by have := hk k h; omega)
  have hB4 : Below w.heap.size w w4 := by rw [← hw4]; exact (hB.trans (hB3.mono hB.size)).setCell (p := ⟨w.heap.size, 2, none⟩) (Nat.le_refl _) _
  have p2 := blk_cell hb13 2
  have q2 := blk_frozen hb13 2
  have y0 := blk_cell hb14 0
  have y1 := blk_cell hb14 1
  have y2 := blk_cell hb14 2
  have z0 := blk_cell hb24 0
  have z1 := blk_cell hb24 1
  have z2 := blk_cell hb24 2
  have u0 := blk_frozen hb24 0
  have u1 := blk_frozen hb24 1
  have u2 := blk_frozen hb24 2
  simp at p2 y0 y1 y2 z0 z1 z2
  have HB := Lib.hid hb24
  have HK := Lib.hid hk
  clear hb1 hb2 hb13 hb23 hb14 hb24 x0 x1 x2 hw2 hS hk
  go_wp2_with fail
  have s := blk_set (blk_set (blk_set HB.out 0 (.int .u8 f)) 1 (.int .u8 t)) 2 (.slice a' m d')
  simp at s
  have e0 := blk_cell s 0
  have e1 := blk_cell s 1
  have e2 := blk_cell s 2
  simp at e0 e1 e2
  have hz2 := hB.size
  have hne : ∀ k, (Value.slice a' m d').ownBlock = some k → ¬ k = w.heap.size + 1 := fun k h e => by have := HK.out k h; omega
  refine bodyPost_ret (v := .agg #[.int .u8 f, .int .u8 t, .slice a' m d']) (by simp [results, Tryd.results33, go_sem, e0, e1, e2]) rfl ⟨a', d', rfl, ?_, fun k h => Nat.le_trans hz2 (HK.out k h), ?_⟩
  · exact hS4.upd ((((Upd.refl (fun k => k = w.heap.size + 1) w4).setCell ⟨w.heap.size + 1, 0, none⟩ _ (fun _ => rfl)).setCell ⟨w.heap.size + 1, 1, none⟩ _ (fun _ => rfl)).setCell ⟨w.heap.size + 1, 2, none⟩ _ (fun _ => rfl)) hne
  · exact ((hB4.setCell (p := ⟨w.heap.size + 1, 0, none⟩) (Nat.le_succ _) _).setCell (p := ⟨w.heap.size + 1, 1, none⟩) (Nat.le_succ _) _).setCell (p := ⟨w.heap.size + 1, 2, none⟩) (Nat.le_succ _) _

end Go.Proofs.YtehgbpepaakanaaDoor
