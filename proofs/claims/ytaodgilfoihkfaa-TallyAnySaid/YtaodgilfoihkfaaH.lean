/-
  The contract of the reference's New.
-/
import Derived.Test.YtaodgilfoihkfaaG
namespace Go.Proofs.Ytaodgilfoihkfaa
open Go.RowKit
set_option linter.unusedVariables false
set_option linter.unusedSimpArgs false

def bld (ps : Array (Nat × Value)) : Sem Value := Instr.build 25 ps
theorem bld25 (ps : Array (Nat × Value)) : Instr.build 25 ps = bld ps := rfl
attribute [local go_sem ↓] ld22 ld23 ld25 ld30 st22 st23 st25 st30 bld25

abbrev bzl : Array Value := #[.bool false, .bool false, .bool false, .bool false, .bool false, .bool false, .bool false, .bool false]
theorem bld_zero (w : World) : (bld #[]).run Try.prog w = .ok (.agg zlit) w := by
  simp [bld, Instr.build, Instr.fill, Result.andThen, Value.cells]

theorem bld_one (W : List Bool) (hW : W.length = 8) (w : World) : (bld #[(0, .agg (Ta.bs W).toArray)]).run Try.prog w = .ok (TV ⟨W, Ta.zero.V, Ta.zero.E⟩) w := by
  match W, hW with
  | [a, b, c, d, e, f, g, k], _ =>
    simp [bld, Instr.build, Instr.fill, Result.andThen, Value.cells, Ta.bs, Ta.arr, Ta.cells, Ta.is, Ta.zero, List.zipIdx, Array.zipIdx, List.replicate]

/-- A boxed array of eight bools. -/
def Bb (w : World) (B : Nat) (l : List Bool) : Prop := ∃ T, w.heap[B]? = some (.cells (Ta.bs l).toArray T (0, 0))
theorem Bb.cell {w : World} {B : Nat} {l : List Bool} (h : Bb w B l) {k : Nat} (hk : k < l.length) : w.cell? ⟨B, k, none⟩ = some (.bool (l.getD k false)) := by
  obtain ⟨T, h⟩ := h
  rw [blk_cell h]
  simp [Ta.bs, List.getD, hk]
theorem Bb.fr {w : World} {B : Nat} {l : List Bool} (h : Bb w B l) (k : Nat) : w.frozen? ⟨B, k, none⟩ = false := by
  obtain ⟨T, h⟩ := h
  exact blk_frozen h k
theorem Bb.set {w : World} {g : Nat} {l : List Bool} (h : Bb w g l) (k : Nat) (x : Bool) : Bb (w.setCell ⟨g, k, none⟩ (.bool x)) g (l.set k x) := by
  obtain ⟨T, h⟩ := h
  exact ⟨T, by rw [blk_set h]; simp [Ta.bs, List.map_set]⟩
theorem Bb.ld {w : World} {g : Nat} {l : List Bool} (h : Bb w g l) (hl : l.length = 8) : (ld 22 (.pointer (some ⟨g, 0, none⟩))).run Try.prog w = .ok (.agg (Ta.bs l).toArray) w := by
  obtain ⟨T, h⟩ := h
  refine run_loadAt_mid w g 0 22 (Ta.bs l) _ (fun j v hv => ?_) Try.underlying22 rfl (by rw [show (Ta.bs l).length = 8 by simp [Ta.bs, hl]]; rfl)
  rw [Nat.zero_add, blk_cell h]
  simpa using hv
theorem twob (w : World) : Bx ((w.alloc (.cells zlit 25)).alloc (.cells bzl 22)) w.heap.size Ta.zero ∧ Bb ((w.alloc (.cells zlit 25)).alloc (.cells bzl 22)) (w.heap.size + 1) Ta.zero.W ∧ Below w.heap.size w ((w.alloc (.cells zlit 25)).alloc (.cells bzl 22)) := by
  refine ⟨(bx_zero w 25).alloc _, ⟨22, ?_⟩, (((Below.refl _ _).alloc (by simp) _).alloc (by simp) _)⟩
  have := heap_alloc_new (w.alloc (.cells zlit 25)) (.cells bzl 22)
  rw [show (Ta.bs Ta.zero.W).toArray = bzl from rfl]
  simpa using this

/-- What the adding keeps. -/
theorem add_VE {t u : Ta} {x : Int} (h : t.add x = some u) : u.V = t.V ∧ u.E = t.E := by
  unfold Ta.add at h
  split at h
  · cases h
  · injection h with h
    subst h
    exact ⟨rfl, rfl⟩
theorem rep_false {n i : Nat} (h : (List.replicate n false)[i]? = some true) : False := by
  rw [List.getElem?_replicate] at h
  split at h <;> simp at h
theorem set_keeps {l : List Bool} {i j : Nat} (h : l[i]? = some true) : (l.set j true)[i]? = some true := by
  rw [List.getElem?_set]
  split
  · rename_i hij
    subst hij
    rw [if_pos (List.getElem?_eq_some_iff.1 h).1]
  · exact h
theorem adds_keeps (zs : List Int) : ∀ {t u : Ta} {i : Nat}, t.W[i]? = some true → t.adds zs = some u → u.W[i]? = some true := by
  induction zs with
  | nil =>
    intro t u i h hu
    injection hu with hu
    rw [← hu]
    exact h
  | cons x r ih =>
    intro t u i h hu
    simp only [Ta.adds] at hu
    cases ha : t.add x with
    | none => rw [ha] at hu; cases hu
    | some v =>
      rw [ha] at hu
      refine ih (i := i) ?_ hu
      unfold Ta.add at ha
      split at ha
      · cases ha
      · injection ha with ha
        subst ha
        exact set_keeps h
theorem adds_VE (zs : List Int) : ∀ {t u : Ta}, t.adds zs = some u → u.V = t.V ∧ u.E = t.E := by
  induction zs with
  | nil =>
    intro t u h
    injection h with h
    rw [h]
    exact ⟨rfl, rfl⟩
  | cons x r ih =>
    intro t u h
    simp only [Ta.adds] at h
    cases ha : t.add x with
    | none => rw [ha] at h; cases h
    | some v =>
      rw [ha] at h
      have h1 := ih h
      have h2 := add_VE ha
      exact ⟨h1.1.trans h2.1, h1.2.trans h2.2⟩
theorem adds_cons_ne {x : Int} {r : List Int} {t : Ta} (h : Ta.zero.adds (x :: r) = some t) : t ≠ Ta.zero := by
  simp only [Ta.adds] at h
  cases ha : Ta.zero.add x with
  | none => rw [ha] at h; cases h
  | some v =>
    rw [ha] at h
    unfold Ta.add at ha
    split at ha
    · cases ha
    · rename_i hn
      injection ha with ha
      subst ha
      have h8 : x.toNat < 8 := by
        have : ¬ 8 ≤ x := fun h => hn (.inl h)
        omega
      have h1 : (Ta.zero.setW x.toNat).W[x.toNat]? = some true := by
        simp [Ta.setW, Ta.zero, h8]
      have h2 := adds_keeps r h1 h
      intro he
      rw [he] at h2
      exact rep_false h2
theorem new_some {zs : List Int} {t : Ta} (h : Ta.zero.adds zs = some t) (hne : zs ≠ []) : Ta.new zs = (t, 0) := by
  match zs, hne with
  | x :: r, _ => rw [Ta.new, h]; simp only; rw [if_neg (adds_cons_ne h)]

set_option maxHeartbeats 3200000 in
theorem rnew_is (a : Option Addr) (len cap : Nat) (zs : List Int) (B : Nat) (w : World) (hI : Ints .u8 B w a zs) (hBw : B ≤ w.heap.size) (hlen : zs.length = len) (hlc : len ≤ cap) (hcap : cap ≤ 9223372036854775807) (hwf : ∀ n ∈ zs, (Lit.int .u8 n).wf = true) :
    Calls Try.prog 16 #[.slice a len cap] w fun e w' => e = .returned (.tuple #[TV (Ta.new zs).1, .int .i64 (Ta.new zs).2]) ∧ Below w.heap.size w w' := by
  obtain ⟨hb0, hb1, hB⟩ := twob w
  have HI := Lib.hid hI
  have HL := Lib.hid hlen
  have HW := Lib.hid hwf
  have HBw := Lib.hid hBw
  clear hI hlen hwf hBw
  have hll : (len : Int) ≤ 9223372036854775807 := by omega
  clear hlc hcap
  have bz := bld_zero
  go_enter Try.func16, Try.ntmps16
  go_wp2_with fail
  generalize (w.alloc (.cells zlit 25)).alloc (.cells bzl 22) = w1 at *
  go_loopw [5] (fun ix wr => ∃ k : Nat, k ≤ len ∧ ix = .int .i64 k ∧ ∃ t : Ta, t.Len ∧ Hid (Ta.zero.adds (zs.take k) = some t) ∧ Bx wr w.heap.size Ta.zero ∧ Bb wr (w.heap.size + 1) t.W ∧ Below w.heap.size w wr) (fun ix _ => len - (intOf ix).toNat)
  case atStart => exact ⟨0, by omega, rfl, Ta.zero, zero_len, Lib.hid rfl, hb0, hb1, hB⟩
  case round =>
    clear hb0 hb1 hB
    obtain ⟨k, hk, rfl, t, hl, hadds, b0, b1, hB⟩ := hrel
    by_cases hlt : k < len
    · obtain ⟨x, hx⟩ : ∃ x, zs[k]? = some x := ⟨_, List.getElem?_eq_getElem (by rw [HL.out]; exact hlt)⟩
      obtain ⟨bb, off, rfl, hcell⟩ := (HI.out.below (hB.mono HBw.out)).get hx
      have hxw := bounds_u8 (HW.out x (List.mem_of_getElem? hx))
      obtain ⟨n, rfl⟩ := Int.eq_ofNat_of_zero_le hxw.1
      have HX := Lib.hid hx
      have hk2 : (k : Int) < (len : Int) := by omega
      clear hx
      by_cases h8 : 8 ≤ n
      · have h8i : (8 : Int) ≤ (n : Int) := by omega
        have HN := Lib.hid (Ta.new_none (Ta.adds_stop hadds.out HX.out (by rw [Ta.add, if_pos (.inl h8i)])))
        have s25 : (sto 25 (.pointer (some ⟨w.heap.size, 0, none⟩)) (.agg zlit)).run Try.prog _ = .ok () _ := b0.sto25 zero_len zero_len
        have BR := Lib.hid (b0.row Ta.zero)
        have BW := Lib.hid (brow (g := w.heap.size) hB (Nat.le_refl _) Ta.zero.arr)
        clear b0 b1 hB
        go_wp2_with fail
        refine bodyPost_ret (res_cell Try.results16 (.inr rfl) _ _ (w.heap.size) _ zero_len _ rfl rfl BR.out) rfl ⟨retT HN.out, BW.out⟩
      have h8i : ((n : Nat) : Int) < 8 := by omega
      have h8n : n < 8 := by omega
      have cw := b1.cell (k := n) (by rw [hl.w]; exact h8n)
      obtain ⟨wk, hwk⟩ : ∃ q, t.W.getD n false = q := ⟨_, rfl⟩
      rw [hwk] at cw
      cases wk
      · have HA := Lib.hid (Ta.adds_next hadds.out HX.out (u := t.setW n) (by rw [Ta.add, if_neg (by rintro (h | h); omega; simp [Ta.w] at h; simp at hwk; rw [hwk] at h; cases h)]; rfl))
        have fw := b1.fr n
        have d1 := Lib.hid (b1.set n true)
        have d0 := Lib.hid (b0.farc ⟨w.heap.size + 1, n, none⟩ (by simp) (.bool true))
        have BW := Lib.hid (hB.setCell (p := ⟨w.heap.size + 1, n, none⟩) (by simp) (.bool true))
        have hl2 := Lib.hid (hl.setW n)
        clear b0 b1 hB hwk
        go_wp2_with fail
        go_roundw
        case rel => exact ⟨k + 1, by omega, by go_num, t.setW n, hl2.out, HA, d0.out, d1.out, BW.out⟩
        case measure => simp [intOf]; omega
      · have HN := Lib.hid (Ta.new_none (Ta.adds_stop hadds.out HX.out (by rw [Ta.add, if_pos (.inr (by simpa [Ta.w] using hwk))])))
        have s25 : (sto 25 (.pointer (some ⟨w.heap.size, 0, none⟩)) (.agg zlit)).run Try.prog _ = .ok () _ := b0.sto25 zero_len zero_len
        have BR := Lib.hid (b0.row Ta.zero)
        have BW := Lib.hid (brow (g := w.heap.size) hB (Nat.le_refl _) Ta.zero.arr)
        clear b0 b1 hB hwk
        go_wp2_with fail
        refine bodyPost_ret (res_cell Try.results16 (.inr rfl) _ _ (w.heap.size) _ zero_len _ rfl rfl BR.out) rfl ⟨retT HN.out, BW.out⟩
    · obtain rfl : k = len := by omega
      have hall : Ta.zero.adds zs = some t := by
        have := hadds.out
        rw [List.take_of_length_le (by rw [HL.out]; exact Nat.le_refl _)] at this
        exact this
      by_cases hz : k = 0
      · subst hz
        have hzs : zs = [] := List.length_eq_zero_iff.1 HL.out
        have HN2 := Lib.hid (show Ta.new zs = (Ta.zero, 2) by rw [hzs]; rfl)
        have s25 : (sto 25 (.pointer (some ⟨w.heap.size, 0, none⟩)) (.agg zlit)).run Try.prog _ = .ok () _ := b0.sto25 zero_len zero_len
        have BR := Lib.hid (b0.row Ta.zero)
        have BW := Lib.hid (brow (g := w.heap.size) hB (Nat.le_refl _) Ta.zero.arr)
        clear b0 b1 hB hall hzs
        go_wp2_with fail
        refine bodyPost_ret (res_cell Try.results16 (.inr rfl) _ _ (w.heap.size) _ zero_len _ rfl rfl BR.out) rfl ⟨retT HN2.out, BW.out⟩
      · have hne : zs ≠ [] := fun h => hz (by rw [← HL.out, h]; rfl)
        have HN2 := Lib.hid (new_some hall hne)
        have ht : t = ⟨t.W, Ta.zero.V, Ta.zero.E⟩ := by
          obtain ⟨W, V, E⟩ := t
          have := adds_VE zs hall
          simp only at this
          rw [this.1, this.2]
        have bo := bld_one t.W hl.w
        rw [← ht] at bo
        have kz : ((k : Int) == 0) = false := by simp; omega
        have l1 := b1.ld hl.w
        have s25 := b0.sto25 zero_len hl
        have BR := Lib.hid (b0.row t)
        have BW := Lib.hid (brow (g := w.heap.size) hB (Nat.le_refl _) t.arr)
        clear b0 b1 hB hall ht hne
        go_wp2_with fail
        refine bodyPost_ret (res_cell Try.results16 (.inr rfl) _ _ (w.heap.size) _ hl _ rfl rfl BR.out) rfl ⟨retT HN2.out, BW.out⟩

end Go.Proofs.Ytaodgilfoihkfaa
