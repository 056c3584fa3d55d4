/-
  The contracts of New, of the program and of the reference.
-/
import Derived.Test.YtaodgilfoihkfaaF
namespace Go.Proofs.Ytaodgilfoihkfaa
open Go.RowKit
set_option linter.unusedVariables false
set_option linter.unusedSimpArgs false

attribute [local go_sem ↓] ld22 ld23 ld25 ld30 st22 st23 st25 st30

namespace Ta
def add (t : Ta) (x : Int) : Option Ta := if 8 ≤ x ∨ t.w x.toNat = true then none else some (t.setW x.toNat)
def adds (t : Ta) : List Int → Option Ta
  | [] => some t
  | x :: r => (t.add x).bind fun u => u.adds r
theorem adds_append (l r : List Int) : ∀ t : Ta, t.adds (l ++ r) = (t.adds l).bind fun u => u.adds r := by
  induction l with
  | nil => intro t; rfl
  | cons x l ih =>
    intro t
    simp only [List.cons_append, adds]
    cases t.add x with
    | none => rfl
    | some u => exact ih u
def new (zs : List Int) : Ta × Int :=
  match zero.adds zs with
  | none => (zero, 2)
  | some t => if t = zero then (zero, 2) else (t, 0)
theorem Len.add {t u : Ta} (h : t.Len) {x : Int} (hx : t.add x = some u) : u.Len := by
  unfold Ta.add at hx
  split at hx
  · cases hx
  · injection hx with hx
    rw [← hx]
    exact h.setW _
theorem Len.adds (zs : List Int) : ∀ {t u : Ta}, t.Len → t.adds zs = some u → u.Len := by
  induction zs with
  | nil =>
    intro t u h hx
    injection hx with hx
    rw [← hx]
    exact h
  | cons x r ih =>
    intro t u h hx
    simp only [Ta.adds] at hx
    cases ha : t.add x with
    | none => rw [ha] at hx; cases hx
    | some v => rw [ha] at hx; exact ih (h.add ha) hx
theorem Len.new (zs : List Int) : (Ta.new zs).1.Len := by
  unfold Ta.new
  cases h : zero.adds zs with
  | none => exact zero_len
  | some t =>
    simp only
    split
    · exact zero_len
    · exact Len.adds zs zero_len h
theorem new_none {zs : List Int} (h : zero.adds zs = none) : new zs = (zero, 2) := by rw [new, h]
theorem adds_stop {zs : List Int} {k : Nat} {t : Ta} {x : Int} (h : zero.adds (zs.take k) = some t) (hx : zs[k]? = some x) (ha : t.add x = none) : zero.adds zs = none := by
  have hk : k < zs.length := (List.getElem?_eq_some_iff.1 hx).1
  have e : zs = zs.take k ++ (x :: zs.drop (k + 1)) := by
    rw [← (List.getElem?_eq_some_iff.1 hx).2, ← List.drop_eq_getElem_cons hk, List.take_append_drop]
  rw [e, adds_append, h]
  simp [adds, ha]
theorem adds_next {zs : List Int} {k : Nat} {t u : Ta} {x : Int} (h : zero.adds (zs.take k) = some t) (hx : zs[k]? = some x) (ha : t.add x = some u) : zero.adds (zs.take (k + 1)) = some u := by
  have hk : k < zs.length := (List.getElem?_eq_some_iff.1 hx).1
  rw [List.take_add_one, hx, adds_append, h]
  simp [adds, ha]
end Ta

theorem eqz30 (t : Ta) (hl : t.Len) (w : World) : (Op.equalIn 10000 30 (TV t) (.agg zlit)).run Try.prog w = .ok (decide (t = Ta.zero)) w := by
  have h := eq30 w 9997 hl zero_len
  rw [zero_arr] at h
  exact h

theorem twoz (w : World) (T : TypeId) : Bx ((w.alloc (.cells zlit T)).alloc (.cells zlit T)) w.heap.size Ta.zero ∧ Bx ((w.alloc (.cells zlit T)).alloc (.cells zlit T)) (w.heap.size + 1) Ta.zero ∧ Below w.heap.size w ((w.alloc (.cells zlit T)).alloc (.cells zlit T)) := two w Ta.zero T

set_option maxHeartbeats 3200000 in
theorem new_is (a : Option Addr) (len cap : Nat) (zs : List Int) (B : Nat) (w : World) (hI : Ints .u8 B w a zs) (hBw : B ≤ w.heap.size) (hlen : zs.length = len) (hlc : len ≤ cap) (hcap : cap ≤ 9223372036854775807) (hwf : ∀ n ∈ zs, (Lit.int .u8 n).wf = true) :
    Calls Try.prog 15 #[.slice a len cap] w fun e w' => e = .returned (.tuple #[TV (Ta.new zs).1, .int .i64 (Ta.new zs).2]) ∧ Below w.heap.size w w' := by
  obtain ⟨hb0, hb1, hB⟩ := twoz w 30
  have HI := Lib.hid hI
  have HL := Lib.hid hlen
  have HW := Lib.hid hwf
  have HBw := Lib.hid hBw
  clear hI hlen hwf hBw
  have hll : (len : Int) ≤ 9223372036854775807 := by omega
  clear hlc hcap
  go_enter Try.func15, Try.ntmps15
  go_wp2_with fail
  generalize (w.alloc (.cells zlit 30)).alloc (.cells zlit 30) = w1 at *
  go_loopw [9] (fun ix wr => ∃ k : Nat, k ≤ len ∧ ix = .int .i64 k ∧ ∃ t : Ta, t.Len ∧ Hid (Ta.zero.adds (zs.take k) = some t) ∧ Bx wr w.heap.size Ta.zero ∧ Bx wr (w.heap.size + 1) t ∧ Below w.heap.size w wr) (fun ix _ => len - (intOf ix).toNat)
  case atStart => exact ⟨0, by omega, rfl, Ta.zero, zero_len, Lib.hid rfl, hb0, hb1, hB⟩
  case round =>
    clear hb0 hb1 hB
    obtain ⟨k, hk, rfl, t, hl, hadds, b0, b1, hB⟩ := hrel
    by_cases hlt : k < len
    · obtain ⟨x, hx⟩ : ∃ x, zs[k]? = some x := ⟨_, List.getElem?_eq_getElem (by rw [HL.out]; exact hlt)⟩
      obtain ⟨bb, off, rfl, hcell⟩ := (HI.out.below (hB.mono HBw.out)).get hx
      have hxw := bounds_u8 (HW.out x (List.mem_of_getElem? hx))
      obtain ⟨n, rfl⟩ := Int.eq_ofNat_of_zero_le hxw.1
      have HX := Lib.hid hx
      have hk2 : (k : Int) < (len : Int) := by omega
      clear hx
      by_cases h8 : 8 ≤ n
      · have h8i : (8 : Int) ≤ (n : Int) := by omega
        have HN := Lib.hid (Ta.new_none (Ta.adds_stop hadds.out HX.out (by rw [Ta.add, if_pos (.inl h8i)])))
        have s30 : (sto 30 (.pointer (some ⟨w.heap.size, 0, none⟩)) (.agg zlit)).run Try.prog _ = .ok () _ := b0.sto30 zero_len zero_len
        have BR := Lib.hid (b0.row Ta.zero)
        have BW := Lib.hid (brow (g := w.heap.size) hB (Nat.le_refl _) Ta.zero.arr)
        clear b0 b1 hB
        go_wp2_with fail
        refine bodyPost_ret (res_cell Try.results15 (.inl rfl) _ _ (w.heap.size) _ zero_len _ rfl rfl BR.out) rfl ⟨retT HN.out, BW.out⟩
      have h8i : ((n : Nat) : Int) < 8 := by omega
      have h8n : n < 8 := by omega
      have cw := b1.cw hl h8n
      obtain ⟨wk, hwk⟩ : ∃ q, t.w n = q := ⟨_, rfl⟩
      rw [hwk] at cw
      cases wk
      · have HA := Lib.hid (Ta.adds_next hadds.out HX.out (u := t.setW n) (by rw [Ta.add, if_neg (by rintro (h | h); omega; simp [hwk] at h)]; rfl))
        have fw := b1.fr n
        have d1 := Lib.hid (b1.setW hl h8n)
        have d0 := Lib.hid (b0.farc ⟨w.heap.size + 1, n, none⟩ (by simp) (.bool true))
        have BW := Lib.hid (hB.setCell (p := ⟨w.heap.size + 1, n, none⟩) (by simp) (.bool true))
        have hl2 := Lib.hid (hl.setW n)
        clear b0 b1 hB hwk
        go_wp2_with fail
        go_roundw
        case rel => exact ⟨k + 1, by omega, by go_num, t.setW n, hl2.out, HA, d0.out, d1.out, BW.out⟩
        case measure => simp [intOf]; omega
      · have HN := Lib.hid (Ta.new_none (Ta.adds_stop hadds.out HX.out (by rw [Ta.add, if_pos (.inr (by simpa using hwk))])))
        have s30 : (sto 30 (.pointer (some ⟨w.heap.size, 0, none⟩)) (.agg zlit)).run Try.prog _ = .ok () _ := b0.sto30 zero_len zero_len
        have BR := Lib.hid (b0.row Ta.zero)
        have BW := Lib.hid (brow (g := w.heap.size) hB (Nat.le_refl _) Ta.zero.arr)
        clear b0 b1 hB hwk
        go_wp2_with fail
        refine bodyPost_ret (res_cell Try.results15 (.inl rfl) _ _ (w.heap.size) _ zero_len _ rfl rfl BR.out) rfl ⟨retT HN.out, BW.out⟩
    · obtain rfl : k = len := by omega
      have hall : Ta.zero.adds zs = some t := by
        have := hadds.out
        rw [List.take_of_length_le (by rw [HL.out]; exact Nat.le_refl _)] at this
        exact this
      have hnew : Ta.new zs = if t = Ta.zero then (Ta.zero, 2) else (t, 0) := by rw [Ta.new, hall]
      have HN := Lib.hid hnew
      clear hall hnew
      have l1 := b1.load30 hl
      have q := eqz30 t hl
      by_cases hz : t = Ta.zero
      · have HN2 := Lib.hid (HN.out.trans (if_pos hz))
        have qz : decide (t = Ta.zero) = true := by simpa using hz
        rw [qz] at q
        have s30 : (sto 30 (.pointer (some ⟨w.heap.size, 0, none⟩)) (.agg zlit)).run Try.prog _ = .ok () _ := b0.sto30 zero_len zero_len
        have BR := Lib.hid (b0.row Ta.zero)
        have BW := Lib.hid (brow (g := w.heap.size) hB (Nat.le_refl _) Ta.zero.arr)
        clear b0 b1 hB hz qz
        go_wp2_with fail
        refine bodyPost_ret (res_cell Try.results15 (.inl rfl) _ _ (w.heap.size) _ zero_len _ rfl rfl BR.out) rfl ⟨retT HN2.out, BW.out⟩
      · have HN2 := Lib.hid (HN.out.trans (if_neg hz))
        have qz : decide (t = Ta.zero) = false := by simpa using hz
        rw [qz] at q
        have s30 := b0.sto30 zero_len hl
        have BR := Lib.hid (b0.row t)
        have BW := Lib.hid (brow (g := w.heap.size) hB (Nat.le_refl _) t.arr)
        clear b0 b1 hB hz qz
        go_wp2_with fail
        refine bodyPost_ret (res_cell Try.results15 (.inl rfl) _ _ (w.heap.size) _ hl _ rfl rfl BR.out) rfl ⟨retT HN2.out, BW.out⟩

end Go.Proofs.Ytaodgilfoihkfaa
