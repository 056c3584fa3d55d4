/-
  Pure laws of a tally that begins.
-/
import Derived.Test.YtaodgilfoihkfaaHears
namespace Go.Proofs.Ytaodgilfoihkfaa
open Go.RowKit
set_option linter.unusedVariables false
set_option linter.unusedSimpArgs false

theorem new_cases (zs : List Int) : Ta.new zs = (Ta.zero, 2) ∨ ∃ t, Ta.zero.adds zs = some t ∧ t ≠ Ta.zero ∧ Ta.new zs = (t, 0) := by
  unfold Ta.new
  cases h : Ta.zero.adds zs with
  | none => exact .inl rfl
  | some t =>
    simp only
    by_cases hz : t = Ta.zero
    · rw [if_pos hz]; exact .inl rfl
    · rw [if_neg hz]; exact .inr ⟨t, rfl, hz, rfl⟩

theorem getD_eq {t : Ta} (hl : t.Len) {k : Nat} (hk : k < 8) : t.W[k]? = some (t.w k) := by
  have : k < t.W.length := by rw [hl.w]; exact hk
  simp [Ta.w, List.getD, this]

theorem add_inv {t u : Ta} {x : Int} (h : t.add x = some u) : x < 8 ∧ t.w x.toNat = false ∧ u = t.setW x.toNat := by
  unfold Ta.add at h
  split at h
  · cases h
  · rename_i hn
    injection h with h
    exact ⟨by have : ¬ 8 ≤ x := fun h => hn (.inl h); omega, by simpa using fun h => hn (.inr h), h.symm⟩

theorem Ta.w_setW {t : Ta} (hl : t.Len) {k : Nat} (hk : k < 8) (j : Nat) : (t.setW k).w j = if j = k then true else t.w j := by
  have : t.W.length = 8 := hl.w
  simp only [Ta.w, Ta.setW, List.getD, List.getElem?_set]
  by_cases h : j = k
  · subst h; simp [this, hk]
  · simp [h, Ne.symm h]

theorem add_count {t u : Ta} (hl : t.Len) {x : Int} (h : t.add x = some u) : u.W.count true = t.W.count true + 1 := by
  obtain ⟨h8, hw, rfl⟩ := add_inv h
  have hk : x.toNat < 8 := by omega
  have hk2 : x.toNat < t.W.length := by rw [hl.w]; exact hk
  have hg := getD_eq hl hk
  rw [hw, List.getElem?_eq_getElem hk2] at hg
  injection hg with hg
  simp only [Ta.setW]
  rw [List.count_set hk2, hg]
  simp

theorem adds_count (zs : List Int) : ∀ {t u : Ta}, t.Len → t.adds zs = some u → u.W.count true = t.W.count true + zs.length := by
  induction zs with
  | nil =>
    intro t u hl h
    injection h with h
    subst h
    rfl
  | cons x r ih =>
    intro t u hl h
    simp only [Ta.adds] at h
    cases ha : t.add x with
    | none => rw [ha] at h; cases h
    | some v =>
      rw [ha] at h
      rw [ih (hl.add ha) h, add_count hl ha, List.length_cons]
      omega

/-- Who takes part: those that were, and the list's. -/
theorem adds_mem (zs : List Int) : ∀ {t u : Ta}, t.Len → (∀ z ∈ zs, 0 ≤ z) → t.adds zs = some u → ∀ j, j < 8 → (u.w j = true ↔ t.w j = true ∨ (j : Int) ∈ zs) := by
  induction zs with
  | nil =>
    intro t u hl h0 h j hj
    injection h with h
    subst h
    simp
  | cons x r ih =>
    intro t u hl h0 h j hj
    simp only [Ta.adds] at h
    cases ha : t.add x with
    | none => rw [ha] at h; cases h
    | some v =>
      rw [ha] at h
      rw [ih (hl.add ha) (fun z hz => h0 z (by simp [hz])) h j hj]
      obtain ⟨h8, hw, rfl⟩ := add_inv ha
      have hx0 := h0 x (by simp)
      have hk : x.toNat < 8 := by omega
      rw [Ta.w_setW hl hk]
      rw [List.mem_cons]
      by_cases hjx : j = x.toNat
      · have hx1 : (j : Int) = x := by omega
        rw [if_pos hjx]
        exact ⟨fun _ => .inr (.inl hx1), fun _ => .inl rfl⟩
      · have hx1 : ¬ (j : Int) = x := by omega
        rw [if_neg hjx]
        exact ⟨fun h => h.imp id .inr, fun h => h.imp id fun h => h.resolve_left hx1⟩

theorem adds_range (zs : List Int) : ∀ {t u : Ta}, t.adds zs = some u → ∀ z ∈ zs, z < 8 := by
  induction zs with
  | nil =>
    intro t u h z hz
    cases hz
  | cons x r ih =>
    intro t u h z hz
    simp only [Ta.adds] at h
    cases ha : t.add x with
    | none => rw [ha] at h; cases h
    | some v =>
      rw [ha] at h
      rcases List.mem_cons.1 hz with rfl | hz
      · exact (add_inv ha).1
      · exact ih h z hz

theorem adds_nodup (zs : List Int) : ∀ {t u : Ta}, t.Len → (∀ z ∈ zs, 0 ≤ z) → t.adds zs = some u → zs.Nodup ∧ ∀ z ∈ zs, t.w z.toNat = false := by
  induction zs with
  | nil =>
    intro t u hl h0 h
    exact ⟨List.nodup_nil, by simp⟩
  | cons x r ih =>
    intro t u hl h0 h
    simp only [Ta.adds] at h
    cases ha : t.add x with
    | none => rw [ha] at h; cases h
    | some v =>
      rw [ha] at h
      obtain ⟨h8, hw, hv⟩ := add_inv ha
      have hlv := hl.add ha
      have ⟨n1, n2⟩ := ih hlv (fun z hz => h0 z (by simp [hz])) h
      have hx0 := h0 x (by simp)
      have hk : x.toNat < 8 := by omega
      subst hv
      refine ⟨List.nodup_cons.2 ⟨fun hm => ?_, n1⟩, ?_⟩
      · have := n2 x hm
        rw [Ta.w_setW hl hk, if_pos rfl] at this
        cases this
      · intro z hz
        rcases List.mem_cons.1 hz with rfl | hz
        · exact hw
        · have := n2 z hz
          rw [Ta.w_setW hl hk] at this
          split at this
          · cases this
          · exact this

theorem some_w {t : Ta} (hl : t.Len) (h : t.W ≠ List.replicate 8 false) : ∃ j, j < 8 ∧ t.w j = true := by
  refine Decidable.byContradiction fun hn => h (List.ext_getElem? fun i => ?_)
  by_cases hi : i < 8
  · rw [getD_eq hl hi, List.getElem?_replicate, if_pos hi]
    cases hw : t.w i
    · rfl
    · exact absurd ⟨i, hi, hw⟩ hn
  · rw [List.getElem?_eq_none (by rw [hl.w]; omega), List.getElem?_eq_none (by simp; omega)]

theorem zero_v (j : Nat) : Ta.zero.v j = 0 := by
  simp only [Ta.v, Ta.zero, List.getD, List.getElem?_replicate]
  split <;> rfl
theorem zero_e (j : Nat) : Ta.zero.e j = 0 := by
  simp only [Ta.e, Ta.zero, List.getD, List.getElem?_replicate]
  split <;> rfl

/-- A tally that begins. -/
structure Fresh (t : Ta) : Prop where
  len : t.Len
  v : ∀ j, t.v j = 0
  e : ∀ j, t.e j = 0
  some : ∃ j, j < 8 ∧ t.w j = true
theorem fresh {zs : List Int} {t : Ta} (h : Ta.zero.adds zs = some t) (hz : t ≠ Ta.zero) : Fresh t := by
  have hl := Ta.Len.adds zs zero_len h
  obtain ⟨h1, h2⟩ := adds_VE zs h
  refine ⟨hl, fun j => ?_, fun j => ?_, some_w hl fun hw => hz ?_⟩
  · rw [Ta.v, h1]; exact zero_v j
  · rw [Ta.e, h2]; exact zero_e j
  · obtain ⟨W, V, E⟩ := t
    simp only at h1 h2 hw
    rw [h1, h2, hw]
    rfl
theorem Fresh.right {t : Ta} (h : Fresh t) : t.right = true := by
  rw [right_iff]
  refine ⟨fun j hj => ?_, h.some⟩
  simp [Ta.okAt, h.v, h.e]
theorem Fresh.outcome {t : Ta} (h : Fresh t) : t.outcome = 0 := by
  rw [outcome_else h.right (fun j _ => by rw [h.v]; decide), if_pos]
  obtain ⟨j, hj, hw⟩ := h.some
  rw [Ta.openB, List.any_eq_true]
  exact ⟨j, by simpa using hj, by simp [hw, h.v]⟩

end Go.Proofs.Ytaodgilfoihkfaa
