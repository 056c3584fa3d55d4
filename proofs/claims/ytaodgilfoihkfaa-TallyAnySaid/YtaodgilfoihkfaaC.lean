/-
  The contracts of the reference's Hear.
-/
import Derived.Test.YtaodgilfoihkfaaB
namespace Go.Proofs.Ytaodgilfoihkfaa
open Go.RowKit
set_option linter.unusedVariables false
set_option linter.unusedSimpArgs false

attribute [local go_sem ↓] ld22 ld23 ld25 ld30 st22 st23 st25 st30

/-- A boxed array of eight integers. -/
def Bi (w : World) (B : Nat) (l : List Int) : Prop := ∃ T, w.heap[B]? = some (.cells (Ta.is l).toArray T (0, 0))
abbrev zints : Array Value := #[.int .i64 0, .int .i64 0, .int .i64 0, .int .i64 0, .int .i64 0, .int .i64 0, .int .i64 0, .int .i64 0]
theorem bi_zero (w : World) (T : TypeId) : Bi (w.alloc (.cells zints T)) w.heap.size (List.replicate 8 0) := ⟨T, heap_alloc_new w _⟩
theorem is_one (l : List Int) : ∀ u ∈ Ta.is l, u.oneCell' = true := by
  intro u hu
  simp only [Ta.is, List.mem_map] at hu
  obtain ⟨_, _, rfl⟩ := hu
  rfl
theorem Bi.cell {w : World} {B : Nat} {l : List Int} (h : Bi w B l) {k : Nat} (hk : k < l.length) : w.cell? ⟨B, k, none⟩ = some (.int .i64 (l.getD k 0)) := by
  obtain ⟨T, h⟩ := h
  rw [blk_cell h]
  simp [Ta.is, List.getD, hk]
theorem Bi.fr {w : World} {B : Nat} {l : List Int} (h : Bi w B l) (k : Nat) : w.frozen? ⟨B, k, none⟩ = false := by
  obtain ⟨T, h⟩ := h
  exact blk_frozen h k
theorem Bi.row {w : World} {g : Nat} {u : List Int} (h : Bi w g u) (l : List Int) : Bi (w.setRow g (Ta.is l).toArray) g l := by
  obtain ⟨T, h⟩ := h
  exact ⟨T, setRow_heap w g _ _ T _ h⟩
theorem Bi.set {w : World} {g : Nat} {l : List Int} (h : Bi w g l) (k : Nat) (x : Int) : Bi (w.setCell ⟨g, k, none⟩ (.int .i64 x)) g (l.set k x) := by
  obtain ⟨T, h⟩ := h
  exact ⟨T, by rw [blk_set h]; simp [Ta.is, List.map_set]⟩
theorem Bi.ld {w : World} {g : Nat} {l : List Int} (h : Bi w g l) (hl : l.length = 8) : (ld 23 (.pointer (some ⟨g, 0, none⟩))).run Try.prog w = .ok (.agg (Ta.is l).toArray) w := by
  obtain ⟨T, h⟩ := h
  refine run_loadAt_mid w g 0 23 (Ta.is l) _ (fun j v hv => ?_) Try.underlying23 rfl (by rw [show (Ta.is l).length = 8 by simp [Ta.is, hl]]; rfl)
  rw [Nat.zero_add, blk_cell h]
  simpa using hv
theorem Bi.sto {w : World} {g : Nat} {u l : List Int} (h : Bi w g u) (hu : u.length = 8) (hl : l.length = 8) : (sto 23 (.pointer (some ⟨g, 0, none⟩)) (.agg (Ta.is l).toArray)).run Try.prog w = .ok () (w.setRow g (Ta.is l).toArray) := by
  obtain ⟨T, h⟩ := h
  have e8 : (Ta.is l).length = 8 := by simp [Ta.is, hl]
  have e8' : (Ta.is u).length = 8 := by simp [Ta.is, hu]
  rw [run_sto 23 w g 0 _ T (Ta.is l) h (by rw [e8]; rfl) (by rw [e8]; simp [e8']) (is_one l)]
  congr 2
  rw [List.drop_of_length_le (by simp [e8, e8'])]
  simp
theorem Bx.stoE {w : World} {g : Nat} {t : Ta} (h : Bx w g t) (ht : t.Len) (l : List Int) (hl : l.length = 8) : (sto 23 (.pointer (some ⟨g, 16, none⟩)) (.agg (Ta.is l).toArray)).run Try.prog w = .ok () (w.setRow g (Ta.arr ⟨t.W, t.V, l⟩)) := by
  obtain ⟨T, h⟩ := h
  have e8 : (Ta.is l).length = 8 := by simp [Ta.is, hl]
  have h2 : (Ta.bs t.W).length = 8 := by simp [Ta.bs, ht.w]
  have h3 : (Ta.is t.V).length = 8 := by simp [Ta.is, ht.v]
  have h4 : (Ta.is t.E).length = 8 := by simp [Ta.is, ht.e]
  rw [run_sto 23 w g 16 _ T (Ta.is l) h (by rw [e8]; rfl) (by rw [e8, Ta.size ht]; omega) (is_one l)]
  congr 2
  rw [List.drop_of_length_le (by simp [e8, Ta.arr, Ta.clen ht])]
  simp [Ta.arr, Ta.cells, List.take_append, h2, h3, List.take_of_length_le (l := Ta.bs t.W) (i := 16) (by omega), List.take_of_length_le (l := Ta.is t.V) (i := 8) (by omega)]
theorem Bx.stoV {w : World} {g : Nat} {t : Ta} (h : Bx w g t) (ht : t.Len) (l : List Int) (hl : l.length = 8) : (sto 23 (.pointer (some ⟨g, 8, none⟩)) (.agg (Ta.is l).toArray)).run Try.prog w = .ok () (w.setRow g (Ta.arr ⟨t.W, l, t.E⟩)) := by
  obtain ⟨T, h⟩ := h
  have e8 : (Ta.is l).length = 8 := by simp [Ta.is, hl]
  have h2 : (Ta.bs t.W).length = 8 := by simp [Ta.bs, ht.w]
  have h3 : (Ta.is t.V).length = 8 := by simp [Ta.is, ht.v]
  have h4 : (Ta.is t.E).length = 8 := by simp [Ta.is, ht.e]
  rw [run_sto 23 w g 8 _ T (Ta.is l) h (by rw [e8]; rfl) (by rw [e8, Ta.size ht]; omega) (is_one l)]
  congr 2
  simp [Ta.arr, Ta.cells, List.take_append, List.drop_append, h2, h3, e8, List.take_of_length_le (l := Ta.bs t.W) (i := 8) (by omega), List.drop_of_length_le (l := Ta.bs t.W) (i := 16) (by omega), List.drop_of_length_le (l := Ta.is t.V) (i := 8) (by omega)]

theorem Bx.stoE' {w : World} {g : Nat} {t : Ta} (h : Bx w g t) (ht : t.Len) (k : Nat) (x : Int) : (sto 23 (.pointer (some ⟨g, 16, none⟩)) (.agg (Ta.is (t.E.set k x)).toArray)).run Try.prog w = .ok () (w.setRow g (t.setE k x).arr) :=
  h.stoE ht _ (by rw [List.length_set]; exact ht.e)
theorem Bx.stoV' {w : World} {g : Nat} {t : Ta} (h : Bx w g t) (ht : t.Len) (k : Nat) (x : Int) : (sto 23 (.pointer (some ⟨g, 8, none⟩)) (.agg (Ta.is (t.V.set k x)).toArray)).run Try.prog w = .ok () (w.setRow g (t.setV k x).arr) :=
  h.stoV ht _ (by rw [List.length_set]; exact ht.v)

set_option maxHeartbeats 3200000 in
theorem rhear_is (t : Ta) (hl : t.Len) (who : Nat) (ep : Int) (w : World) :
    Calls Try.prog 14 #[TV t, .int .u8 who, .int .i64 ep] w fun e w' => e = .returned (.tuple #[TV (t.hear who ep).1, .int .i64 (t.hear who ep).2]) ∧ Below w.heap.size w w' := by
  obtain ⟨hb0, hb1, hB⟩ := two w t 25
  have l30 := hb0.load25 hl
  go_enter Try.func14, Try.ntmps14
  go_wp2_with fail
  refine (rright_is t hl _).mono ?_
  rintro e w1 ⟨rfl, hB1⟩
  have b0 := hb0.below hB1
  have b1 := hb1.below hB1
  have hBw : Below w.heap.size w w1 := hB.trans (hB1.mono hB.size)
  clear hb0 hb1 hB hB1 l30
  have l30 := b0.load25 hl
  have s30 := b1.sto25 zero_len hl
  have bR := b1.row t
  have bW := brow (g := w.heap.size + 1) hBw (by omega) t.arr
  have BR := Lib.hid bR
  have BW := Lib.hid bW
  have B0 := Lib.hid b0
  have B1 := Lib.hid b1
  have BB := Lib.hid hBw
  have hne : w.heap.size + 1 ≠ w.heap.size := by omega
  obtain ⟨r, hr⟩ : ∃ r, t.right = r := ⟨_, rfl⟩
  rw [hr]
  obtain ⟨R, hR⟩ : ∃ R, t.hear who ep = R := ⟨_, rfl⟩
  have HR := Lib.hid hR
  unfold Ta.hear at hR
  rw [hr] at hR
  clear bR bW b1 hBw hr
  cases r
  · obtain rfl : R = (t, 2) := by rw [← hR]; rfl
    clear hR b0
    go_wp2_with fail
    refine bodyPost_ret (res_cell Try.results14 (.inr rfl) _ _ (w.heap.size + 1) t hl _ rfl rfl BR.out) rfl ⟨retT HR.out, BW.out⟩
  by_cases h1 : ep < 1
  · obtain rfl : R = (t, 2) := by rw [← hR]; simp [h1]
    clear hR b0
    go_wp2_with fail
    refine bodyPost_ret (res_cell Try.results14 (.inr rfl) _ _ (w.heap.size + 1) t hl _ rfl rfl BR.out) rfl ⟨retT HR.out, BW.out⟩
  by_cases h2 : 1048576 < ep
  · obtain rfl : R = (t, 2) := by rw [← hR]; simp [h2]
    clear hR b0
    go_wp2_with fail
    refine bodyPost_ret (res_cell Try.results14 (.inr rfl) _ _ (w.heap.size + 1) t hl _ rfl rfl BR.out) rfl ⟨retT HR.out, BW.out⟩
  by_cases h3 : 8 ≤ who
  · obtain rfl : R = (t, 7) := by rw [← hR]; simp [h1, h2, h3]
    have h3' : (8 : Int) ≤ (who : Int) := by omega
    clear hR b0
    go_wp2_with fail
    refine bodyPost_ret (res_cell Try.results14 (.inr rfl) _ _ (w.heap.size + 1) t hl _ rfl rfl BR.out) rfl ⟨retT HR.out, BW.out⟩
  have hlt : who < 8 := by omega
  have h3' : (who : Int) < 8 := by omega
  have cw := b0.cw hl hlt
  have ce := b0.ce hl hlt
  obtain ⟨wk, hwk⟩ : ∃ q, t.w who = q := ⟨_, rfl⟩
  obtain ⟨e, he⟩ : ∃ q, t.e who = q := ⟨_, rfl⟩
  rw [hwk] at cw hR
  rw [he] at ce hR
  clear hwk he
  cases wk
  · obtain rfl : R = (t, 7) := by rw [← hR]; simp [h1, h2, h3]
    clear hR b0
    go_wp2_with fail
    refine bodyPost_ret (res_cell Try.results14 (.inr rfl) _ _ (w.heap.size + 1) t hl _ rfl rfl BR.out) rfl ⟨retT HR.out, BW.out⟩
  by_cases h4 : ep < e
  · obtain rfl : R = (t, 10) := by rw [← hR]; simp [h1, h2, h3, h4]
    clear hR b0
    go_wp2_with fail
    refine bodyPost_ret (res_cell Try.results14 (.inr rfl) _ _ (w.heap.size + 1) t hl _ rfl rfl BR.out) rfl ⟨retT HR.out, BW.out⟩
  obtain rfl : R = (t.setE who ep, 0) := by rw [← hR]; simp [h1, h2, h3, h4]
  have le := b0.load23e hl
  have hlt2 := b0.lt
  have hn1 : w1.heap.size ≠ w.heap.size := by omega
  have hlt3 := B1.out.lt
  have hn2 : w1.heap.size ≠ w.heap.size + 1 := by omega
  have i0 := bi_zero w1 23
  have si := i0.sto (by rfl) hl.e
  have i1 := i0.row t.E
  have ci := i1.cell (k := who) (by rw [hl.e]; exact hlt)
  have fi := i1.fr who
  have i2 := i1.set who ep
  have li := i2.ld (by rw [List.length_set]; exact hl.e)
  have d0 := ((b0.alloc (.cells zints 23)).far (b := w1.heap.size) (Ne.symm hn1) (Ta.is t.E).toArray).farc ⟨w1.heap.size, who, none⟩ (Ne.symm hn1) (.int .i64 ep)
  have d1 := ((B1.out.alloc (.cells zints 23)).far (b := w1.heap.size) (Ne.symm hn2) (Ta.is t.E).toArray).farc ⟨w1.heap.size, who, none⟩ (Ne.symm hn2) (.int .i64 ep)
  have hl2 := hl.setE who ep
  have se := d0.stoE' hl who ep
  have e0 := d0.row (t.setE who ep)
  have e1 := d1.far (b := w.heap.size) hne (t.setE who ep).arr
  have l25' := e0.load25 hl2
  have s25' := e1.sto25 zero_len hl2
  have BR2 := Lib.hid (e1.row (t.setE who ep))
  have BW2 := Lib.hid (brow (g := w.heap.size + 1) (brow (g := w.heap.size) ((brow (g := w1.heap.size) (BB.out.alloc BB.out.size (.cells zints 23)) BB.out.size (Ta.is t.E).toArray).setCell (p := ⟨w1.heap.size, who, none⟩) BB.out.size (.int .i64 ep)) (by omega) (t.setE who ep).arr) (by omega) (t.setE who ep).arr)
  clear hR b0 i0 i1 i2 d0 d1 e0 e1
  go_wp2_with fail
  refine bodyPost_ret (res_cell Try.results14 (.inr rfl) _ _ (w.heap.size + 1) _ hl2 _ rfl rfl BR2.out) rfl ⟨retT HR.out, BW2.out⟩

end Go.Proofs.Ytaodgilfoihkfaa
