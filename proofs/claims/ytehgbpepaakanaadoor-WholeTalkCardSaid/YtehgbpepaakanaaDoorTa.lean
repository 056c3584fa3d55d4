/-
  Packets: what can be read and what is owned; numbered, slices.Clone.
-/
import Derived.Test.YtehgbpepaakanaaDoorJ
namespace Go.Proofs.YtehgbpepaakanaaDoor
open Go.RowKit
set_option linter.unusedVariables false
set_option linter.unusedSimpArgs false
set_option maxRecDepth 20000

attribute [local go_sem] Oper.semAt_some

/-- A packet. -/
structure Pk where
  q : Int
  s : ByteArray
def encPk (p : Pk) : List Value := [.int .i64 p.q, .string p.s]
theorem encPk_len (p : Pk) : (encPk p).length = 2 := rfl
theorem encPk_one (ps : List Pk) : ∀ u ∈ cellsOf encPk ps, u.oneCell' = true := by
  intro u hu
  simp only [cellsOf, List.mem_flatMap, encPk, List.mem_cons, List.not_mem_nil, or_false] at hu
  obtain ⟨x, -, rfl | rfl⟩ := hu <;> rfl
theorem Tryd.infoPk : (Tryd.prog.info? 54).map (fun i => (i.zero, i.size, i.bytes)) = some (some (.agg #[.int .i64 0, .string ⟨#[]⟩]), 2, 24) := by kernel_rfl
theorem Tryd.noPk (w : World) (a : Option Addr) (n c : Nat) : (binOp .eql 46 (.slice a n c) (.slice none 0 0)).run Tryd.prog w = .ok (.bool a.isNone) w := Lib.run_eql_slice_nil w _ _ a n c 0 0 Tryd.underlying46

/-- A slice of packets that owns its row. -/
def PS (w : World) (v : Value) (ps : List Pk) : Prop := w.ownsRow 0 54 2 v ps.length (cellsOf encPk ps)
/-- A slice of packets that can be read. -/
def PR (w : World) (a : Option Addr) (m d : Nat) (ps : List Pk) : Prop :=
  (a = none ∧ m = 0 ∧ d = 0 ∧ ps = []) ∨ ∃ b, a = some ⟨b, 0, none⟩ ∧ b < w.heap.size ∧ ps.length = m ∧ m ≤ d ∧ (d : Int) ≤ 9223372036854775807 ∧ ∀ j x, ps[j]? = some x → w.cell? ⟨b, j * 2, none⟩ = some (.int .i64 x.q) ∧ w.cell? ⟨b, j * 2 + 1, none⟩ = some (.string x.s)
theorem PR.below {w w' : World} {a : Option Addr} {m d : Nat} {ps : List Pk} (h : PR w a m d ps) (hb : Below w.heap.size w w') : PR w' a m d ps := by
  rcases h with h | ⟨b, e, hlt, hl, hd, hm, hc⟩
  · exact .inl h
  · exact .inr ⟨b, e, Nat.lt_of_lt_of_le hlt hb.size, hl, hd, hm, fun j x hx => ⟨(hb.cell (p := ⟨b, j * 2, none⟩) hlt).trans (hc j x hx).1, (hb.cell (p := ⟨b, j * 2 + 1, none⟩) hlt).trans (hc j x hx).2⟩⟩
theorem PR.len {w : World} {a : Option Addr} {m d : Nat} {ps : List Pk} (h : PR w a m d ps) : ps.length = m := by
  rcases h with ⟨_, rfl, _, rfl⟩ | ⟨b, e, hlt, hl, _⟩
  · rfl
  · exact hl
theorem PR.cap {w : World} {a : Option Addr} {m d : Nat} {ps : List Pk} (h : PR w a m d ps) : m ≤ d ∧ (d : Int) ≤ 9223372036854775807 := by
  rcases h with ⟨_, rfl, rfl, rfl⟩ | ⟨b, e, hlt, hl, h1, h2, _⟩
  · decide
  · exact ⟨h1, h2⟩
theorem PS.slice {w : World} {v : Value} {ps : List Pk} (h : PS w v ps) : ∃ a d, v = .slice a ps.length d := by
  rcases h.2 with ⟨rfl, h0⟩ | ⟨g, cap, cur, rfl, _⟩
  · exact ⟨none, 0, by rw [h0]⟩
  · exact ⟨_, _, rfl⟩
theorem PS.read {w : World} {a : Option Addr} {m d : Nat} {ps : List Pk} (h : PS w (.slice a m d) ps) : PR w a m d ps := by
  rcases h.2 with ⟨h0, h1⟩ | ⟨g, cap, cur, hv, hb, hcur, hnc, hcm, hsz, htake⟩
  · simp only [Value.slice.injEq] at h0
    exact .inl ⟨h0.1, h0.2.1, h0.2.2, List.length_eq_zero_iff.1 h1⟩
  · simp only [Value.slice.injEq] at hv
    obtain ⟨rfl, rfl, rfl⟩ := hv
    have hk : ∀ j, j < ps.length * 2 → w.cell? ⟨g, j, none⟩ = (cellsOf encPk ps)[j]? := by
      intro j hj
      rw [blk_cell hcur, ← htake, List.getElem?_take, if_pos (by omega), Array.getElem?_toList]
    refine .inr ⟨g, rfl, lt_of_heap hcur, rfl, hnc, by simp only [maxLen] at hcm; omega, fun j x hx => ?_⟩
    have hj : j < ps.length := (List.getElem?_eq_some_iff.1 hx).1
    have e0 := cellsOf_at encPk 2 encPk_len ps j 0 x hx (by decide)
    have e1 := cellsOf_at encPk 2 encPk_len ps j 1 x hx (by decide)
    exact ⟨(hk _ (by omega)).trans e0, (hk _ (by omega)).trans e1⟩
theorem PS.upd {w w' : World} {v : Value} {ps : List Pk} (h : PS w v ps) {S : Nat → Prop} (hu : Upd S w w') (hn : ∀ k, v.ownBlock = some k → ¬ S k) : PS w' v ps := ownsRow_upd h hu hn
theorem PS.lt {w : World} {v : Value} {ps : List Pk} (h : PS w v ps) : ∀ k, v.ownBlock = some k → k < w.heap.size := fun k hk => (World.ownsRow.lt h k hk).2
/-- The cells of a slice of packets that can be read. -/
theorem pk_cells {w : World} {b : Nat} {ps : List Pk} (hc : ∀ j x, ps[j]? = some x → w.cell? ⟨b, j * 2, none⟩ = some (.int .i64 x.q) ∧ w.cell? ⟨b, j * 2 + 1, none⟩ = some (.string x.s)) :
    ∀ (j : Nat) u, (cellsOf encPk ps)[j]? = some u → w.cell? ((⟨b, 0, none⟩ : Addr).add j) = some u := by
  intro j u hu
  have hj : j < ps.length * 2 := by have := (List.getElem?_eq_some_iff.1 hu).1; rwa [cellsOf_length encPk 2 encPk_len] at this
  obtain ⟨x, hx⟩ : ∃ x, ps[j / 2]? = some x := ⟨_, List.getElem?_eq_getElem (by omega)⟩
  have h := hc _ x hx
  have hm : j % 2 < 2 := Nat.mod_lt _ (by decide)
  have hjj : j / 2 * 2 + j % 2 = j := by omega
  have e := cellsOf_at encPk 2 encPk_len ps (j / 2) (j % 2) x hx hm
  rw [hjj, hu] at e
  rw [Addr.add_lit, Nat.zero_add]
  rcases (show j % 2 = 0 ∨ j % 2 = 1 by omega) with h0 | h0
  · rw [h0] at e hjj
    rw [show j = j / 2 * 2 by omega, h.1]
    simp [encPk] at e
    rw [e]
  · rw [h0] at e hjj
    rw [show j = j / 2 * 2 + 1 by omega, h.2]
    simp [encPk] at e
    rw [e]

theorem num39 (n : Int) (w : World) (h0 : 0 ≤ n) (h1 : n ≤ 1048576) : Calls Tryd.prog 39 #[.int .i64 n] w fun e w' => e = .returned (.bool true) ∧ w = w' := by
  go_enter Tryd.func39, Tryd.ntmps39
  go_wp2_with fail
  go_ret
  exact ⟨rfl, rfl⟩

set_option maxHeartbeats 1000000 in
/-- slices.Clone of packets. -/
theorem clone40 (a : Option Addr) (m d : Nat) (ps : List Pk) (w : World) (h : PR w a m d ps) (hm : m ≤ 100) :
    Calls Tryd.prog 40 #[.slice a m d] w fun e w' => ∃ a' d', e = .returned (.slice a' m d') ∧ PS w' (.slice a' m d') ps ∧ (∀ k, (Value.slice a' m d').ownBlock = some k → w.heap.size ≤ k) ∧ Below w.heap.size w w' := by
  obtain ⟨i0, hi0, hz0, hz1, hz2⟩ := info_parts Tryd.infoPk
  have hq := Tryd.noPk
  rcases h with ⟨rfl, rfl, rfl, rfl⟩ | ⟨b, rfl, hlt, hl, hd, hdm, hc⟩
  · go_enter Tryd.func40, Tryd.ntmps40
    go_wp2
    go_ret
    exact ⟨none, 0, rfl, World.ownsRow_nil _ _ _ _, fun k hk => by simp [Value.ownBlock] at hk, Below.refl _ _⟩
  · have HC := Lib.hid (pk_cells hc)
    have HL : Hid ((cellsOf encPk ps).length = m * 2) := by rw [Hid, cellsOf_length encPk 2 encPk_len, hl]
    have H1 : Hid (∀ u ∈ cellsOf encPk ps, u.oneCell' = true) := encPk_one ps
    have HN := Lib.hid hl
    clear hc hl
    go_enter Tryd.func40, Tryd.ntmps40
    go_wp2_with (at_builtin; refine wpList_append_own _ rfl _ _ 46 rfl w.heap.size 54 i0 (.agg #[.int .i64 0, .string ⟨#[]⟩]) 2 24 Tryd.underlying46 hi0 hz0 hz1 hz2 rfl (by decide) _ _ _ rfl (World.ownsRow_made w #[] 0 (Nat.le_refl _) (Nat.zero_le _) rfl) ⟨b, 0, none⟩ m d (cellsOf encPk ps) rfl ?qc1 ?qc2 ?qc3 ?qc4 ?qc5 ?qc6 ?_)
    case qc1 => exact HL.out
    case qc2 =>
      intro j u hj
      have := HC.out j u hj
      rw [Addr.add_lit] at this ⊢
      exact Lib.cell?_alloc_some _ this
    case qc3 => exact H1.out
    case qc4 => unfold maxLen; omega
    case qc5 => omega
    case qc6 => simp
    intro v' w1 hown hgrow hnil
    go_wp2
    go_ret
    have hS : PS w1 v' ps := by
      rw [PS, HN.out]
      have := ownsRow_base (base' := 0) hown (fun _ _ => Nat.zero_le _)
      simpa using this
    obtain ⟨a', d', rfl⟩ := hS.slice
    rw [HN.out] at hS ⊢
    refine ⟨a', d', rfl, hS, fun k hk => ?_, ?_⟩
    · rw [HN.out] at hown; exact (hown.lt k hk).1
    · exact ((Below.refl _ w).alloc (Nat.le_refl _) _).grown hgrow (by simp) (by intro k hk; simp [Value.ownBlock] at hk; omega)
end Go.Proofs.YtehgbpepaakanaaDoor
