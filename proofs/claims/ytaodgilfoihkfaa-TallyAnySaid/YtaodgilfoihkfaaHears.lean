/-
  TallyHears: the walk.
-/
import Derived.Test.YtaodgilfoihkfaaJ
import Derived.Deep.RegionHeld3
namespace Go.Proofs.Ytaodgilfoihkfaa
open Go.RowKit
set_option linter.unusedVariables false
set_option linter.unusedSimpArgs false

attribute [local go_sem ↓] ld22 ld23 ld25 ld30 st22 st23 st25 st30

theorem below_go {w w1 w2 : World} (k : Below w1.heap.size w1 w2) (h : Below w.heap.size w w1) : Below w.heap.size w w2 := h.trans (k.mono h.size)
theorem cells_keep {w w' : World} {a : Addr} {v : Value} (hb : Below w.heap.size w w') (h : w.cell? a = some v) : w'.cell? a = some v := (hb.cell (World.block_lt_of_cell? w a h)).trans h

theorem hear_cases (t : Ta) (who : Nat) (ep : Int) : (∃ e, e ≠ 0 ∧ t.hear who ep = (t, e)) ∨ (t.hear who ep = (t.setE who ep, 0) ∧ t.right = true ∧ who < 8 ∧ t.w who = true ∧ 1 ≤ ep ∧ ep ≤ 1048576 ∧ t.e who ≤ ep) := by
  unfold Ta.hear
  split
  · exact .inl ⟨2, by decide, rfl⟩
  · rename_i h1
    split
    · exact .inl ⟨7, by decide, rfl⟩
    · rename_i h2
      split
      · exact .inl ⟨10, by decide, rfl⟩
      · rename_i h3
        simp at h1 h2
        exact .inr ⟨rfl, h1.1.1, by omega, h2.2, by omega, by omega, by omega⟩

theorem Ta.e_setE {t : Ta} (hl : t.Len) {k : Nat} (hk : k < 8) (x : Int) (j : Nat) : (t.setE k x).e j = if j = k then x else t.e j := by
  have : t.E.length = 8 := hl.e
  simp only [Ta.e, Ta.setE, List.getD, List.getElem?_set]
  by_cases h : j = k
  · subst h; simp [this, hk]
  · simp [h, Ne.symm h]
theorem Ta.v_setV {t : Ta} (hl : t.Len) {k : Nat} (hk : k < 8) (x : Int) (j : Nat) : (t.setV k x).v j = if j = k then x else t.v j := by
  have : t.V.length = 8 := hl.v
  simp only [Ta.v, Ta.setV, List.getD, List.getElem?_set]
  by_cases h : j = k
  · subst h; simp [this, hk]
  · simp [h, Ne.symm h]

theorem right_iff (t : Ta) : t.right = true ↔ (∀ j, j < 8 → t.okAt j = true) ∧ ∃ j, j < 8 ∧ t.w j = true := by
  rw [Ta.right, Bool.and_eq_true, List.all_eq_true, List.any_eq_true]
  constructor
  · rintro ⟨h1, j, hj, h2⟩
    exact ⟨fun j hj => h1 j (by simpa using hj), j, by simpa using hj, h2⟩
  · rintro ⟨h1, j, hj, h2⟩
    exact ⟨fun j hj => h1 j (by simpa using hj), j, by simpa using hj, h2⟩

theorem setE_right {t : Ta} (hl : t.Len) (h : t.right = true) {k : Nat} (hk : k < 8) (hw : t.w k = true) {x : Int} (h1 : 1 ≤ x) (h2 : x ≤ 1048576) : (t.setE k x).right = true := by
  rw [right_iff] at h ⊢
  refine ⟨fun j hj => ?_, h.2⟩
  have hj0 := h.1 j hj
  have e1 : (t.setE k x).w j = t.w j := rfl
  have e2 : (t.setE k x).v j = t.v j := rfl
  simp only [Ta.okAt, e1, e2, Ta.e_setE hl hk] at hj0 ⊢
  by_cases hjk : j = k
  · subst hjk
    simp only [hw, if_true, Bool.and_eq_true, decide_eq_true_eq] at hj0 ⊢
    simp at hj0 ⊢
    omega
  · simp only [hjk, if_false]
    exact hj0
theorem outcome_setE {t : Ta} (h : t.right = true) {k : Nat} {x : Int} (h2 : (t.setE k x).right = true) : (t.setE k x).outcome = t.outcome := by
  rw [Ta.outcome, Ta.outcome, h, h2]
  rfl

theorem Bx.keep {w w' : World} {B : Nat} {t : Ta} (hb : Below w.heap.size w w') (h : Bx w B t) : Bx w' B t := h.below hb
theorem Bx.drew {w : World} {B : Nat} {t : Ta} (h : Bx w B t) : Bx w.drew B t := h
theorem hears_mk {w w' : World} {B g n : Nat} {t u : Ta} {ep : Int} (hl : t.Len) (hlu : u.Len) (hn : n < 8) (hV : u.V = t.V) (hW : u.W = t.W) (hcu : u.e n = ep) (b : Bx w' B t) (c : Bx w' g u) (hB : Below w.heap.size w w') :
    (ld 23 (.pointer (some ⟨g, 8, none⟩))).run Try.prog w' = .ok (.agg (Ta.is t.V).toArray) w' ∧ (ld 23 (.pointer (some ⟨B, 8, none⟩))).run Try.prog w' = .ok (.agg (Ta.is t.V).toArray) w' ∧
    (ld 22 (.pointer (some ⟨g, 0, none⟩))).run Try.prog w' = .ok (.agg (Ta.bs t.W).toArray) w' ∧ (ld 22 (.pointer (some ⟨B, 0, none⟩))).run Try.prog w' = .ok (.agg (Ta.bs t.W).toArray) w' ∧
    (ld 30 (.pointer (some ⟨g, 0, none⟩))).run Try.prog w' = .ok (TV u) w' ∧ (ld 25 (.pointer (some ⟨B, 0, none⟩))).run Try.prog w' = .ok (TV t) w' ∧
    w'.cell? ⟨g, 16 + n, none⟩ = some (.int .i64 ep) ∧ Bx w' B t ∧ Bx w' g u ∧ Below w.heap.size w w' :=
  ⟨by rw [← hV]; exact c.load23v hlu, b.load23v hl, by rw [← hW]; exact c.load22 hlu, b.load22 hl, c.load30 hlu, b.load25 hl, by rw [← hcu]; exact c.ce hlu hn, b, c, hB⟩

attribute [local irreducible] ld sto Ta.arr

set_option maxRecDepth 100000 in
set_option maxHeartbeats 1600000 in
theorem hears_walk (t : Ta) (who ep : Int) (w : World) (hl : t.Len) (hw1 : (Lit.int .u8 who).wf = true) (hw2 : (Lit.int .i64 ep).wf = true) :
    Calls Try.prog 8 #[TV t, .int .u8 who, .int .i64 ep] w fun e w' => e = .returned (.bool true) ∧ Below w.heap.size w w' := by
  have hwb := bounds_u8 hw1
  obtain ⟨n, rfl⟩ := Int.eq_ofNat_of_zero_le hwb.1
  clear hw1 hw2
  have hb := bx_new w t 25
  have hB : Below w.heap.size w (w.alloc (.cells t.arr 25)) := (Below.refl _ _).alloc (by simp) _
  go_enter Try.func8, Try.ntmps8
  go_wp2_with fail
  refine (alive_yes _).mono ?_
  rintro e w1 ⟨rfl, hB1⟩
  have b0 := hb.below hB1
  have hBw := below_go hB1 hB
  clear hb hB hB1
  have l25 := b0.load25 hl
  go_wp2_with fail
  refine (hear_is t hl n ep _).mono ?_
  rintro e w2 ⟨rfl, hB1⟩
  replace b0 := b0.below hB1
  replace hBw := below_go hB1 hBw
  clear hB1 l25
  have hlu := hl.hear n ep
  rcases hear_cases t n ep with ⟨e, he, hR⟩ | ⟨hR, hr, hn, hwn, h1, h2, h3⟩
  · rw [hR] at hlu ⊢
    obtain ⟨s, c, d⟩ := nv w2 hl
    have b1 := b0.below d
    have BW := Lib.hid (below_go d hBw)
    have heb : (e != 0) = true := by simpa using he
    have l30 := c.load30 hl
    have l25 := b1.load25 hl
    have q := fun w => eq25 w 9997 hl hl
    simp only [decide_true] at q
    clear b0 hBw d c b1 hR he
    go_wp2
    go_ret
    exact ⟨rfl, BW.out⟩
  · rw [hR] at hlu ⊢
    simp only at hlu
    have hor := outcome_setE hr (setE_right hl hr hn hwn h1 h2)
    have hcu : (t.setE n ep).e n = ep := by rw [Ta.e_setE hl hn, if_pos rfl]
    have hV : (t.setE n ep).V = t.V := rfl
    have hW : (t.setE n ep).W = t.W := rfl
    generalize t.setE n ep = u at *
    obtain ⟨s, c, d⟩ := nv w2 hlu
    have b1 := b0.below d
    have BW := below_go d hBw
    go_wp2_with fail
    generalize (w2.alloc (.cells zlit 30)).setRow w2.heap.size u.arr = W at *
    generalize w2.heap.size = g at *
    have h8 : (n : Int) < 8 := by omega
    have hm : ((n : Int)).tmod 8 = n := Int.tmod_eq_of_lt (by omega) h8
    have q22 := fun w => eq22 w 9998 t.W t.W hl.w hl.w
    have q23 := fun w => eq23 w 9998 t.V t.V hl.v hl.v
    simp only [decide_true] at q22 q23
    have HOR := Lib.hid hor
    have MK := Lib.hid (fun (w' : World) => hears_mk (w := w) (w' := w') (B := w.heap.size) (g := g) hl hlu hn hV hW hcu)
    have START := MK.out W b1 c BW
    have HL := Lib.hid hl
    have HLU := Lib.hid hlu
    clear s d b0 hBw hor hcu hV hW b1 c BW hR hr hwn h1 h2 h3
    go_region_held3 (fun w' => (ld 23 (.pointer (some ⟨g, 8, none⟩))).run Try.prog w' = .ok (.agg (Ta.is t.V).toArray) w' ∧ (ld 23 (.pointer (some ⟨w.heap.size, 8, none⟩))).run Try.prog w' = .ok (.agg (Ta.is t.V).toArray) w' ∧
        (ld 22 (.pointer (some ⟨g, 0, none⟩))).run Try.prog w' = .ok (.agg (Ta.bs t.W).toArray) w' ∧ (ld 22 (.pointer (some ⟨w.heap.size, 0, none⟩))).run Try.prog w' = .ok (.agg (Ta.bs t.W).toArray) w' ∧
        (ld 30 (.pointer (some ⟨g, 0, none⟩))).run Try.prog w' = .ok (TV u) w' ∧ (ld 25 (.pointer (some ⟨w.heap.size, 0, none⟩))).run Try.prog w' = .ok (TV t) w' ∧
        w'.cell? ⟨g, 16 + n, none⟩ = some (.int .i64 ep) ∧ Bx w' w.heap.size t ∧ Bx w' g u ∧ Below w.heap.size w w')
      ((go_split_ands; first | with_reducible exact START | exact MK.out _ (Bx.keep (by assumption) (by assumption)) (Bx.keep (by assumption) (by assumption)) (below_go (by assumption) (by assumption)) | exact MK.out _ (Bx.drew (by assumption)) (Bx.drew (by assumption)) (Below.drew (by assumption))))
      ((go_at_call 19; refine (outcome_is _ (by assumption) _).mono ?_; rintro e w' ⟨rfl, hb⟩; (try rw [HOR.out])))
    go_wp2
    go_ret
    go_split_ands
    exact ⟨rfl, by assumption⟩

end Go.Proofs.Ytaodgilfoihkfaa
