/-
  Stores of tallies; the pure laws; the contracts of Hear and Put, of the program and of the reference.
-/
import Derived.Test.YtaodgilfoihkfaaA
namespace Go.Proofs.Ytaodgilfoihkfaa
open Go.RowKit
set_option linter.unusedVariables false
set_option linter.unusedSimpArgs false

attribute [local go_sem ↓] ld22 ld23 ld25 ld30 st22 st23 st25 st30

abbrev zlit : Array Value := #[.bool false, .bool false, .bool false, .bool false, .bool false, .bool false, .bool false, .bool false, .int .i64 0, .int .i64 0, .int .i64 0, .int .i64 0, .int .i64 0, .int .i64 0, .int .i64 0, .int .i64 0, .int .i64 0, .int .i64 0, .int .i64 0, .int .i64 0, .int .i64 0, .int .i64 0, .int .i64 0, .int .i64 0]
theorem zero_arr : Ta.zero.arr = zlit := rfl
theorem zero_len : Ta.zero.Len := ⟨rfl, rfl, rfl⟩
theorem bx_zero (w : World) (T : TypeId) : Bx (w.alloc (.cells zlit T)) w.heap.size Ta.zero := ⟨T, heap_alloc_new w _⟩

theorem run_sto (T : TypeId) (w : World) (g o : Nat) (cur : Array Value) (T' : TypeId) (vs : List Value) (h : w.heap[g]? = some (.cells cur T' (0, 0))) (hs : (Try.prog.info? T).map (·.size) = some vs.length) (hf : o + vs.length ≤ cur.size) (h1 : ∀ u ∈ vs, u.oneCell' = true) :
    (sto T (.pointer (some ⟨g, o, none⟩)) (.agg vs.toArray)).run Try.prog w = .ok () (w.setRow g (cur.toList.take o ++ vs ++ cur.toList.drop (o + vs.length)).toArray) := by
  have hst := run_storeCells_at Try.prog g o T' vs 0 cur w h (by omega) h1
  simp only [Nat.add_zero] at hst
  obtain ⟨i, hi, hsz⟩ : ∃ i, Try.prog.info? T = some i ∧ i.size = vs.length := by simpa using hs
  simp [sto, Instr.storeAt, Instr.sureAddr, storeVar, sizeOf, typeInfo, hi, Value.cells, hsz, hst, Result.andThen, Sem.run_bind]

theorem Bx.sto30 {w : World} {g : Nat} {u t : Ta} (h : Bx w g u) (hu : u.Len) (ht : t.Len) : (sto 30 (.pointer (some ⟨g, 0, none⟩)) (TV t)).run Try.prog w = .ok () (w.setRow g t.arr) := by
  obtain ⟨T, h⟩ := h
  have hz := Ta.size hu
  rw [show TV t = .agg t.cells.toArray from rfl, run_sto 30 w g 0 _ T t.cells h (by rw [Ta.clen ht]; rfl) (by rw [Ta.clen ht, hz]; omega) Ta.one]
  congr 2
  rw [List.drop_of_length_le (by rw [Ta.clen ht, Array.length_toList, hz]; omega)]
  simp [Ta.arr]
theorem Bx.sto25 {w : World} {g : Nat} {u t : Ta} (h : Bx w g u) (hu : u.Len) (ht : t.Len) : (sto 25 (.pointer (some ⟨g, 0, none⟩)) (TV t)).run Try.prog w = .ok () (w.setRow g t.arr) := by
  obtain ⟨T, h⟩ := h
  have hz := Ta.size hu
  rw [show TV t = .agg t.cells.toArray from rfl, run_sto 25 w g 0 _ T t.cells h (by rw [Ta.clen ht]; rfl) (by rw [Ta.clen ht, hz]; omega) Ta.one]
  congr 2
  rw [List.drop_of_length_le (by rw [Ta.clen ht, Array.length_toList, hz]; omega)]
  simp [Ta.arr]
theorem Bx.row {w : World} {g : Nat} {u : Ta} (h : Bx w g u) (t : Ta) : Bx (w.setRow g t.arr) g t := by
  obtain ⟨T, h⟩ := h
  exact ⟨T, setRow_heap w g _ _ T _ h⟩
theorem Bx.far {w : World} {g b : Nat} {u : Ta} (h : Bx w g u) (hn : g ≠ b) (cs : Array Value) : Bx (w.setRow b cs) g u := by
  obtain ⟨T, h⟩ := h
  exact ⟨T, (setRow_other w b g cs hn).trans h⟩
theorem Bx.farc {w : World} {g : Nat} {u : Ta} (h : Bx w g u) (p : Addr) (hn : g ≠ p.block) (v : Value) : Bx (w.setCell p v) g u := by
  obtain ⟨T, h⟩ := h
  exact ⟨T, blk_far h p hn v⟩
theorem Bx.alloc {w : World} {g : Nat} {u : Ta} (h : Bx w g u) (o : Obj) : Bx (w.alloc o) g u := by
  obtain ⟨T, h⟩ := h
  exact ⟨T, blk_alloc h o⟩

theorem brow {B g : Nat} {a w : World} (hb : Below B a w) (hg : B ≤ g) (cs : Array Value) : Below B a (w.setRow g cs) :=
  hb.trans ⟨rfl, rfl, rfl, by simp, fun k hk => setRow_other w g k cs (by omega)⟩

namespace Ta
def setE (t : Ta) (k : Nat) (x : Int) : Ta := ⟨t.W, t.V, t.E.set k x⟩
def setV (t : Ta) (k : Nat) (x : Int) : Ta := ⟨t.W, t.V.set k x, t.E⟩
def setW (t : Ta) (k : Nat) : Ta := ⟨t.W.set k true, t.V, t.E⟩
theorem Len.setE {t : Ta} (h : t.Len) (k : Nat) (x : Int) : (t.setE k x).Len := ⟨h.w, h.v, by simp [Ta.setE, h.e]⟩
theorem Len.setV {t : Ta} (h : t.Len) (k : Nat) (x : Int) : (t.setV k x).Len := ⟨h.w, by simp [Ta.setV, h.v], h.e⟩
theorem Len.setW {t : Ta} (h : t.Len) (k : Nat) : (t.setW k).Len := ⟨by simp [Ta.setW, h.w], h.v, h.e⟩
theorem arr_setE {t : Ta} (h : t.Len) {k : Nat} (hk : k < 8) (x : Int) : t.arr.setIfInBounds (16 + k) (.int .i64 x) = (t.setE k x).arr := by
  have h2 : (bs t.W).length = 8 := by simp [bs, h.w]
  have h3 : (is t.V).length = 8 := by simp [is, h.v]
  simp only [arr, cells, List.setIfInBounds_toArray, setE]
  rw [List.set_append_right _ _ (by omega), h2, List.set_append_right _ _ (by omega), h3, show 16 + k - 8 - 8 = k by omega]
  simp [is, List.map_set]
theorem arr_setV {t : Ta} (h : t.Len) {k : Nat} (hk : k < 8) (x : Int) : t.arr.setIfInBounds (8 + k) (.int .i64 x) = (t.setV k x).arr := by
  have h2 : (bs t.W).length = 8 := by simp [bs, h.w]
  have h3 : (is t.V).length = 8 := by simp [is, h.v]
  simp only [arr, cells, List.setIfInBounds_toArray, setV]
  rw [List.set_append_right _ _ (by omega), h2, show 8 + k - 8 = k by omega, List.set_append_left _ _ (by omega)]
  simp [is, List.map_set]
theorem arr_setW {t : Ta} (h : t.Len) {k : Nat} (hk : k < 8) : t.arr.setIfInBounds k (.bool true) = (t.setW k).arr := by
  have h2 : (bs t.W).length = 8 := by simp [bs, h.w]
  simp only [arr, cells, List.setIfInBounds_toArray, setW]
  rw [List.set_append_left _ _ (by omega)]
  simp [bs, List.map_set]
end Ta

theorem Bx.setE {w : World} {g : Nat} {t : Ta} (h : Bx w g t) (hl : t.Len) {k : Nat} (hk : k < 8) (x : Int) : Bx (w.setCell ⟨g, 16 + k, none⟩ (.int .i64 x)) g (t.setE k x) := by
  obtain ⟨T, h⟩ := h
  exact ⟨T, by rw [blk_set h, Ta.arr_setE hl hk]⟩
theorem Bx.setV {w : World} {g : Nat} {t : Ta} (h : Bx w g t) (hl : t.Len) {k : Nat} (hk : k < 8) (x : Int) : Bx (w.setCell ⟨g, 8 + k, none⟩ (.int .i64 x)) g (t.setV k x) := by
  obtain ⟨T, h⟩ := h
  exact ⟨T, by rw [blk_set h, Ta.arr_setV hl hk]⟩
theorem Bx.setW {w : World} {g : Nat} {t : Ta} (h : Bx w g t) (hl : t.Len) {k : Nat} (hk : k < 8) : Bx (w.setCell ⟨g, k, none⟩ (.bool true)) g (t.setW k) := by
  obtain ⟨T, h⟩ := h
  exact ⟨T, by rw [blk_set h, Ta.arr_setW hl hk]⟩

/-! ### the pure laws -/
namespace Ta
def hear (t : Ta) (who : Nat) (ep : Int) : Ta × Int :=
  if !t.right || decide (ep < 1) || decide (1048576 < ep) then (t, 2)
  else if decide (8 ≤ who) || !t.w who then (t, 7)
  else if ep < t.e who then (t, 10)
  else (t.setE who ep, 0)
def put (t : Ta) (who : Nat) (ep vote : Int) : Ta × Int :=
  if vote ≠ 1 ∧ vote ≠ 2 then (t, 2)
  else if (t.hear who ep).2 ≠ 0 then (t, (t.hear who ep).2)
  else if (t.hear who ep).1.v who = 0 then ((t.hear who ep).1.setV who vote, 0)
  else if (t.hear who ep).1.v who ≠ vote then (t, 8)
  else ((t.hear who ep).1, 0)
theorem Len.hear {t : Ta} (h : t.Len) (who : Nat) (ep : Int) : (t.hear who ep).1.Len := by
  unfold Ta.hear
  repeat (first | exact h | exact h.setE _ _ | split)
theorem Len.put {t : Ta} (h : t.Len) (who : Nat) (ep vote : Int) : (t.put who ep vote).1.Len := by
  unfold Ta.put
  repeat (first | exact h | exact (h.hear _ _).setV _ _ | exact h.hear _ _ | split)
end Ta

/-- The result of a function of two results, the first a tally in a variable. -/
theorem res_cell {f : Func} {p u : Tmp} {T : TypeId} (hf : f.results = #[.cell p T, .tmp u]) (hT : T = 30 ∨ T = 25) (tmps : Array Value) (W : World) (g : Nat) (t : Ta) (hl : t.Len) (e : Value) (h1 : tmps.getD p undef = .pointer (some ⟨g, 0, none⟩)) (h2 : tmps.getD u undef = e) (h : Bx W g t) :
    (results f tmps).run Try.prog W = .ok (.tuple #[TV t, e]) W := by
  rw [results_cell_tmp hf, h1, h2]
  rcases hT with rfl | rfl
  · have := run_loadVar_mid W g 0 30 t.cells _ h.range Try.underlying30 rfl (by rw [Ta.clen hl]; rfl)
    simp [asAddr, this, Result.andThen, Ta.arr]
  · have := run_loadVar_mid W g 0 25 t.cells _ h.range Try.underlying25 rfl (by rw [Ta.clen hl]; rfl)
    simp [asAddr, this, Result.andThen, Ta.arr]

theorem two (w : World) (t : Ta) (T : TypeId) : Bx ((w.alloc (.cells t.arr T)).alloc (.cells zlit T)) w.heap.size t ∧ Bx ((w.alloc (.cells t.arr T)).alloc (.cells zlit T)) (w.heap.size + 1) Ta.zero ∧ Below w.heap.size w ((w.alloc (.cells t.arr T)).alloc (.cells zlit T)) := by
  refine ⟨(bx_new w t T).alloc _, ?_, (((Below.refl _ _).alloc (by simp) _).alloc (by simp) _)⟩
  have := bx_zero (w.alloc (.cells t.arr T)) T
  simpa using this

theorem retT {a b : Ta × Int} (h : a = b) : Ending.returned (.tuple #[TV b.1, .int .i64 b.2]) = Ending.returned (.tuple #[TV a.1, .int .i64 a.2]) := by rw [h]

set_option maxHeartbeats 3200000 in
theorem hear_is (t : Ta) (hl : t.Len) (who : Nat) (ep : Int) (w : World) :
    Calls Try.prog 13 #[TV t, .int .u8 who, .int .i64 ep] w fun e w' => e = .returned (.tuple #[TV (t.hear who ep).1, .int .i64 (t.hear who ep).2]) ∧ Below w.heap.size w w' := by
  obtain ⟨hb0, hb1, hB⟩ := two w t 30
  have l30 := hb0.load30 hl
  go_enter Try.func13, Try.ntmps13
  go_wp2_with fail
  refine (right_is t hl _).mono ?_
  rintro e w1 ⟨rfl, hB1⟩
  have b0 := hb0.below hB1
  have b1 := hb1.below hB1
  have hBw : Below w.heap.size w w1 := hB.trans (hB1.mono hB.size)
  clear hb0 hb1 hB hB1 l30
  have l30 := b0.load30 hl
  have s30 := b1.sto30 zero_len hl
  have bR := b1.row t
  have bW := brow (g := w.heap.size + 1) hBw (by omega) t.arr
  have BR := Lib.hid bR
  have BW := Lib.hid bW
  have B0 := Lib.hid b0
  have B1 := Lib.hid b1
  have BB := Lib.hid hBw
  have hne : w.heap.size + 1 ≠ w.heap.size := by omega
  obtain ⟨r, hr⟩ : ∃ r, t.right = r := ⟨_, rfl⟩
  rw [hr]
  obtain ⟨R, hR⟩ : ∃ R, t.hear who ep = R := ⟨_, rfl⟩
  have HR := Lib.hid hR
  unfold Ta.hear at hR
  rw [hr] at hR
  clear bR bW b1 hBw hr
  cases r
  · obtain rfl : R = (t, 2) := by rw [← hR]; rfl
    clear hR b0
    go_wp2_with fail
    refine bodyPost_ret (res_cell Try.results13 (.inl rfl) _ _ (w.heap.size + 1) t hl _ rfl rfl BR.out) rfl ⟨retT HR.out, BW.out⟩
  by_cases h1 : ep < 1
  · obtain rfl : R = (t, 2) := by rw [← hR]; simp [h1]
    clear hR b0
    go_wp2_with fail
    refine bodyPost_ret (res_cell Try.results13 (.inl rfl) _ _ (w.heap.size + 1) t hl _ rfl rfl BR.out) rfl ⟨retT HR.out, BW.out⟩
  by_cases h2 : 1048576 < ep
  · obtain rfl : R = (t, 2) := by rw [← hR]; simp [h2]
    clear hR b0
    go_wp2_with fail
    refine bodyPost_ret (res_cell Try.results13 (.inl rfl) _ _ (w.heap.size + 1) t hl _ rfl rfl BR.out) rfl ⟨retT HR.out, BW.out⟩
  by_cases h3 : 8 ≤ who
  · obtain rfl : R = (t, 7) := by rw [← hR]; simp [h1, h2, h3]
    have h3' : (8 : Int) ≤ (who : Int) := by omega
    clear hR b0
    go_wp2_with fail
    refine bodyPost_ret (res_cell Try.results13 (.inl rfl) _ _ (w.heap.size + 1) t hl _ rfl rfl BR.out) rfl ⟨retT HR.out, BW.out⟩
  have hlt : who < 8 := by omega
  have h3' : (who : Int) < 8 := by omega
  have cw := b0.cw hl hlt
  have ce := b0.ce hl hlt
  obtain ⟨wk, hwk⟩ : ∃ q, t.w who = q := ⟨_, rfl⟩
  obtain ⟨e, he⟩ : ∃ q, t.e who = q := ⟨_, rfl⟩
  rw [hwk] at cw hR
  rw [he] at ce hR
  clear hwk he
  cases wk
  · obtain rfl : R = (t, 7) := by rw [← hR]; simp [h1, h2, h3]
    clear hR b0
    go_wp2_with fail
    refine bodyPost_ret (res_cell Try.results13 (.inl rfl) _ _ (w.heap.size + 1) t hl _ rfl rfl BR.out) rfl ⟨retT HR.out, BW.out⟩
  by_cases h4 : ep < e
  · obtain rfl : R = (t, 10) := by rw [← hR]; simp [h1, h2, h3, h4]
    clear hR b0
    go_wp2_with fail
    refine bodyPost_ret (res_cell Try.results13 (.inl rfl) _ _ (w.heap.size + 1) t hl _ rfl rfl BR.out) rfl ⟨retT HR.out, BW.out⟩
  obtain rfl : R = (t.setE who ep, 0) := by rw [← hR]; simp [h1, h2, h3, h4]
  have f0 := b0.fr (16 + who)
  have c0 := b0.setE hl hlt ep
  have c1 := B1.out.farc ⟨w.heap.size, 16 + who, none⟩ hne (.int .i64 ep)
  have hl2 := hl.setE who ep
  have l30' := c0.load30 hl2
  have s30' := c1.sto30 zero_len hl2
  have BR2 := Lib.hid (c1.row (t.setE who ep))
  have BW2 := Lib.hid (brow (g := w.heap.size + 1) (BB.out.setCell (p := ⟨w.heap.size, 16 + who, none⟩) (by simp) (.int .i64 ep)) (by omega) (t.setE who ep).arr)
  clear hR b0 c0 c1
  go_wp2_with fail
  refine bodyPost_ret (res_cell Try.results13 (.inl rfl) _ _ (w.heap.size + 1) _ hl2 _ rfl rfl BR2.out) rfl ⟨retT HR.out, BW2.out⟩

end Go.Proofs.Ytaodgilfoihkfaa
