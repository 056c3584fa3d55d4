/-
  A tally as 24 cells; its pure laws; equality of tallies.
-/
import Derived.Test.YtaodgilfoihkfaaRows
import Derived.Test.YtaodgilfoihkfaaK
import Derived.WalkKit
import Derived.WalkSpells
import Derived.WalkLawsBesides
import Derived.Deep.MidRow
import Derived.Deep.QuietTactic
import Derived.BigQuiet
import Derived.Lib.Hide
namespace Go.Proofs.Ytaodgilfoihkfaa
open Go.RowKit
set_option linter.unusedVariables false
set_option linter.unusedSimpArgs false

/-- A tally. -/
structure Ta where
  W : List Bool
  V : List Int
  E : List Int
deriving DecidableEq

namespace Ta
structure Len (t : Ta) : Prop where
  w : t.W.length = 8
  v : t.V.length = 8
  e : t.E.length = 8
def w (t : Ta) (k : Nat) : Bool := t.W.getD k false
def v (t : Ta) (k : Nat) : Int := t.V.getD k 0
def e (t : Ta) (k : Nat) : Int := t.E.getD k 0
def bs (l : List Bool) : List Value := l.map .bool
def is (l : List Int) : List Value := l.map (.int .i64)
def cells (t : Ta) : List Value := bs t.W ++ (is t.V ++ is t.E)
def arr (t : Ta) : Array Value := t.cells.toArray

theorem at_w {t : Ta} (h : t.Len) {k : Nat} (hk : k < 8) : t.arr[k]? = some (.bool (t.w k)) := by
  have : k < t.W.length := by rw [h.w]; exact hk
  simp [arr, cells, bs, is, w, List.getElem?_append_left, this, List.getD]
theorem at_v {t : Ta} (h : t.Len) {k : Nat} (hk : k < 8) : t.arr[8 + k]? = some (.int .i64 (t.v k)) := by
  have h1 : k < t.V.length := by rw [h.v]; exact hk
  have h2 : (bs t.W).length = 8 := by simp [bs, h.w]
  simp only [arr, cells, List.getElem?_toArray]
  rw [List.getElem?_append_right (by omega), h2, Nat.add_sub_cancel_left, List.getElem?_append_left (by simp [is]; omega)]
  simp [is, v, List.getD, h1]
theorem at_e {t : Ta} (h : t.Len) {k : Nat} (hk : k < 8) : t.arr[16 + k]? = some (.int .i64 (t.e k)) := by
  have h1 : k < t.E.length := by rw [h.e]; exact hk
  have h2 : (bs t.W).length = 8 := by simp [bs, h.w]
  have h3 : (is t.V).length = 8 := by simp [is, h.v]
  simp only [arr, cells, List.getElem?_toArray]
  rw [List.getElem?_append_right (by omega), h2, List.getElem?_append_right (by omega), h3, show 16 + k - 8 - 8 = k by omega]
  simp [is, e, List.getD, h1]
theorem size {t : Ta} (h : t.Len) : t.arr.size = 24 := by simp [arr, cells, bs, is, h.w, h.v, h.e]
theorem clen {t : Ta} (h : t.Len) : t.cells.length = 24 := by simp [cells, bs, is, h.w, h.v, h.e]
theorem one {t : Ta} : ∀ u ∈ t.cells, u.oneCell' = true := by
  intro u hu
  simp only [cells, bs, is, List.mem_append, List.mem_map] at hu
  rcases hu with ⟨_, _, rfl⟩ | ⟨_, _, rfl⟩ | ⟨_, _, rfl⟩ <;> rfl

/-- One mobile's part. -/
def okAt (t : Ta) (k : Nat) : Bool :=
  decide (0 ≤ t.v k) && decide (t.v k ≤ 2) && decide (0 ≤ t.e k) && decide (t.e k ≤ 1048576) && (t.w k || (decide (t.v k = 0) && decide (t.e k = 0))) && (decide (t.v k = 0) || !decide (t.e k = 0))
def right (t : Ta) : Bool := (List.range 8).all t.okAt && (List.range 8).any t.w
def zero : Ta := ⟨List.replicate 8 false, List.replicate 8 0, List.replicate 8 0⟩
end Ta

abbrev TV (t : Ta) : Value := .agg t.arr

/-- A boxed tally. -/
def Bx (w : World) (B : Nat) (t : Ta) : Prop := ∃ T, w.heap[B]? = some (.cells t.arr T (0, 0))

theorem Bx.upd {w w' : World} {B : Nat} {t : Ta} (h : Bx w B t) {S : Nat → Prop} (hu : Upd S w w') (hn : ¬ S B) : Bx w' B t := by
  obtain ⟨T, h⟩ := h
  exact ⟨T, hu.heap h hn⟩
theorem Bx.below {w w' : World} {B : Nat} {t : Ta} (h : Bx w B t) (hb : Below w.heap.size w w') : Bx w' B t :=
  h.upd (Upd.of_below hb (fun _ => False)) id
theorem Bx.lt {w : World} {B : Nat} {t : Ta} (h : Bx w B t) : B < w.heap.size := by
  obtain ⟨T, h⟩ := h
  exact lt_of_heap h
theorem Bx.cw {w : World} {B : Nat} {t : Ta} (h : Bx w B t) (hl : t.Len) {k : Nat} (hk : k < 8) : w.cell? ⟨B, k, none⟩ = some (.bool (t.w k)) := by
  obtain ⟨T, h⟩ := h
  rw [blk_cell h, Ta.at_w hl hk]
theorem Bx.cv {w : World} {B : Nat} {t : Ta} (h : Bx w B t) (hl : t.Len) {k : Nat} (hk : k < 8) : w.cell? ⟨B, 8 + k, none⟩ = some (.int .i64 (t.v k)) := by
  obtain ⟨T, h⟩ := h
  rw [blk_cell h, Ta.at_v hl hk]
theorem Bx.ce {w : World} {B : Nat} {t : Ta} (h : Bx w B t) (hl : t.Len) {k : Nat} (hk : k < 8) : w.cell? ⟨B, 16 + k, none⟩ = some (.int .i64 (t.e k)) := by
  obtain ⟨T, h⟩ := h
  rw [blk_cell h, Ta.at_e hl hk]
theorem Bx.fr {w : World} {B : Nat} {t : Ta} (h : Bx w B t) (k : Nat) : w.frozen? ⟨B, k, none⟩ = false := by
  obtain ⟨T, h⟩ := h
  exact blk_frozen h k
theorem Bx.range {w : World} {B : Nat} {t : Ta} (h : Bx w B t) : w.rangeAt B 0 t.cells := by
  obtain ⟨T, h⟩ := h
  intro j v hv
  rw [Nat.zero_add, blk_cell h]
  simpa [Ta.arr] using hv
theorem Bx.there {w : World} {B : Nat} {t : Ta} (h : Bx w B t) (hl : t.Len) : w.there B 0 24 := by
  obtain ⟨T, h⟩ := h
  intro j hj
  rw [Nat.zero_add, blk_cell h, blk_frozen h]
  exact ⟨by rw [Array.getElem?_eq_getElem (by rw [Ta.size hl]; exact hj)]; rfl, rfl⟩

/-- A load and a store, which the walk does not open. -/
def ld (T : TypeId) (p : Value) : Sem Value := Instr.loadAt T p
def sto (T : TypeId) (p v : Value) : Sem Unit := Instr.storeAt T p v
theorem ld22 (p : Value) : Instr.loadAt 22 p = ld 22 p := rfl
theorem ld23 (p : Value) : Instr.loadAt 23 p = ld 23 p := rfl
theorem ld25 (p : Value) : Instr.loadAt 25 p = ld 25 p := rfl
theorem ld30 (p : Value) : Instr.loadAt 30 p = ld 30 p := rfl
theorem st22 (p v : Value) : Instr.storeAt 22 p v = sto 22 p v := rfl
theorem st23 (p v : Value) : Instr.storeAt 23 p v = sto 23 p v := rfl
theorem st25 (p v : Value) : Instr.storeAt 25 p v = sto 25 p v := rfl
theorem st30 (p v : Value) : Instr.storeAt 30 p v = sto 30 p v := rfl

/-- A whole load, of the program's tally and of the reference's. -/
theorem Bx.load30 {w : World} {B : Nat} {t : Ta} (h : Bx w B t) (hl : t.Len) : (ld 30 (.pointer (some ⟨B, 0, none⟩))).run Try.prog w = .ok (TV t) w :=
  run_loadAt_mid w B 0 30 t.cells _ h.range Try.underlying30 rfl (by rw [Ta.clen hl]; rfl)
theorem Bx.load25 {w : World} {B : Nat} {t : Ta} (h : Bx w B t) (hl : t.Len) : (ld 25 (.pointer (some ⟨B, 0, none⟩))).run Try.prog w = .ok (TV t) w :=
  run_loadAt_mid w B 0 25 t.cells _ h.range Try.underlying25 rfl (by rw [Ta.clen hl]; rfl)
theorem Bx.load22 {w : World} {B : Nat} {t : Ta} (h : Bx w B t) (hl : t.Len) : (ld 22 (.pointer (some ⟨B, 0, none⟩))).run Try.prog w = .ok (.agg (Ta.bs t.W).toArray) w := by
  refine run_loadAt_mid w B 0 22 (Ta.bs t.W) _ (fun j v hv => ?_) Try.underlying22 rfl (by rw [show (Ta.bs t.W).length = 8 by simp [Ta.bs, hl.w]]; rfl)
  refine h.range j v ?_
  rw [Ta.cells, List.getElem?_append_left (List.getElem?_eq_some_iff.1 hv).1]
  exact hv
theorem Bx.load23v {w : World} {B : Nat} {t : Ta} (h : Bx w B t) (hl : t.Len) : (ld 23 (.pointer (some ⟨B, 8, none⟩))).run Try.prog w = .ok (.agg (Ta.is t.V).toArray) w := by
  refine run_loadAt_mid w B 8 23 (Ta.is t.V) _ (fun j v hv => ?_) Try.underlying23 rfl (by rw [show (Ta.is t.V).length = 8 by simp [Ta.is, hl.v]]; rfl)
  have := h.range (8 + j) v
  rw [Nat.zero_add] at this
  refine this ?_
  have h2 : (Ta.bs t.W).length = 8 := by simp [Ta.bs, hl.w]
  rw [Ta.cells, List.getElem?_append_right (by omega), h2, Nat.add_sub_cancel_left, List.getElem?_append_left (List.getElem?_eq_some_iff.1 hv).1]
  exact hv
theorem Bx.load23e {w : World} {B : Nat} {t : Ta} (h : Bx w B t) (hl : t.Len) : (ld 23 (.pointer (some ⟨B, 16, none⟩))).run Try.prog w = .ok (.agg (Ta.is t.E).toArray) w := by
  refine run_loadAt_mid w B 16 23 (Ta.is t.E) _ (fun j v hv => ?_) Try.underlying23 rfl (by rw [show (Ta.is t.E).length = 8 by simp [Ta.is, hl.e]]; rfl)
  have := h.range (16 + j) v
  rw [Nat.zero_add] at this
  refine this ?_
  have h2 : (Ta.bs t.W).length = 8 := by simp [Ta.bs, hl.w]
  have h3 : (Ta.is t.V).length = 8 := by simp [Ta.is, hl.v]
  rw [Ta.cells, List.getElem?_append_right (by omega), h2, List.getElem?_append_right (by omega), h3, show 16 + j - 8 - 8 = j by omega]
  exact hv

/-- An index of an array of bools. -/
theorem index22 (w : World) (l : List Bool) (hl : l.length = 8) (k : Nat) (hk : k < 8) : (Instr.index 22 (.agg (Ta.bs l).toArray) (.int .i64 (k : Int))).run Try.prog w = .ok (.bool (l.getD k false)) w := by
  have h1 : k < l.length := by omega
  have h2 : (k : Int) < 8 := by omega
  obtain ⟨i, hi, hs⟩ : ∃ i, Try.prog.info? 4 = some i ∧ i.size = 1 := ⟨_, rfl, rfl⟩
  simp [Instr.index, asIntOf, run_underlying Try.underlying22, h2, hk, part, isAgg, run_underlying Try.underlying4, Ta.bs, List.getD, h1, sizeOf, typeInfo, hi, hs, Result.andThen]

/-! ### equality -/
theorem all_range_same {α : Type} [DecidableEq α] (n : Nat) (xs ys : List α) (hx : xs.length = n) (hy : ys.length = n) : ((List.range n).all fun i => decide (xs[i]? = ys[i]?)) = decide (xs = ys) := by
  by_cases h : xs = ys
  · subst h
    simp
  · rw [decide_eq_false h, List.all_eq_false]
    refine Decidable.byContradiction fun hn => h (List.ext_getElem? fun i => ?_)
    by_cases hi : i < n
    · exact Decidable.byContradiction fun hne => hn ⟨i, by simpa using hi, by simpa using hne⟩
    · rw [List.getElem?_eq_none (by omega), List.getElem?_eq_none (by omega)]

theorem run_equalIn_arr {P : Program} (w : World) {α : Type} [DecidableEq α] (f : α → Value) (d : Nat) (t e : TypeId) (n : Nat) (ht : P.underlying t = some (.array n e)) (hsz : ∀ w, (sizeOf e).run P w = .ok 1 w) (hag : ∀ w, (isAgg e).run P w = .ok false w)
    (he : ∀ w a b, (Op.equalIn (d + 1) e (f a) (f b)).run P w = .ok (decide (a = b)) w)
    (xs ys : List α) (hx : xs.length = n) (hy : ys.length = n) :
    (Op.equalIn (d + 2) t (.agg (xs.map f).toArray) (.agg (ys.map f).toArray)).run P w = .ok (decide (xs = ys)) w := by
  rw [← all_range_same n xs ys hx hy, List.range_eq_range', Op.equalIn]
  simp only [Sem.run_bind, run_underlying ht, Result.andThen_ok, hsz, Std.Legacy.Range.forIn_eq_forIn_range', Std.Legacy.Range.size, Nat.sub_zero, Nat.add_sub_cancel, Nat.div_one]
  have hl : ∀ i ∈ List.range' 0 n 1, i < n := fun i hi => by simpa using (List.mem_range'_1.1 hi).2
  generalize List.range' 0 n 1 = l at hl ⊢
  induction l with
  | nil => simp
  | cons i l ih =>
    have hi : i < n := hl i (by simp)
    obtain ⟨a, ha⟩ : ∃ a, xs[i]? = some a := ⟨_, List.getElem?_eq_getElem (by omega)⟩
    obtain ⟨b, hb⟩ : ∃ b, ys[i]? = some b := ⟨_, List.getElem?_eq_getElem (by omega)⟩
    have px : (part e (xs.map f).toArray (i * 1)).run P w = .ok (f a) w := by
      simp [part, Sem.run_bind, hag, Result.andThen, ha]
    have py : (part e (ys.map f).toArray (i * 1)).run P w = .ok (f b) w := by
      simp [part, Sem.run_bind, hag, Result.andThen, hb]
    simp only [List.forIn_cons, Sem.run_bind, px, py, he, Result.andThen_ok, List.all_cons, ha, hb, Option.some.injEq]
    by_cases hab : a = b
    · simp only [hab, decide_true, Bool.not_true, Bool.false_eq_true, if_false, Sem.run_pure, Result.andThen_ok, Bool.true_and]
      exact ih fun j hj => hl j (by simp [hj])
    · simp [hab]

theorem eq22 (w : World) (d : Nat) (xs ys : List Bool) (hx : xs.length = 8) (hy : ys.length = 8) : (Op.equalIn (d + 2) 22 (.agg (Ta.bs xs).toArray) (.agg (Ta.bs ys).toArray)).run Try.prog w = .ok (decide (xs = ys)) w :=
  run_equalIn_arr w Value.bool d 22 4 8 Try.underlying22 Try.sizeOf4 Try.isAgg4 (fun w a b => by rw [run_equalIn_bool' w d 4 a b Try.underlying4]; congr 1) xs ys hx hy
theorem eq23 (w : World) (d : Nat) (xs ys : List Int) (hx : xs.length = 8) (hy : ys.length = 8) : (Op.equalIn (d + 2) 23 (.agg (Ta.is xs).toArray) (.agg (Ta.is ys).toArray)).run Try.prog w = .ok (decide (xs = ys)) w :=
  run_equalIn_arr w (Value.int .i64) d 23 3 8 Try.underlying23 Try.sizeOf3 Try.isAgg3 (fun w a b => by rw [run_equalIn_int w d 3 .i64 .i64 a b Try.underlying3]; congr 1) xs ys hx hy

theorem part22 (w : World) {t : Ta} (h : t.Len) : (part 22 t.arr 0).run Try.prog w = .ok (.agg (Ta.bs t.W).toArray) w := by
  have h2 : (Ta.bs t.W).length = 8 := by simp [Ta.bs, h.w]
  have hs := Ta.size h
  simp [part, hs, Ta.arr, Ta.cells, ← h2]
theorem part23v (w : World) {t : Ta} (h : t.Len) : (part 23 t.arr 8).run Try.prog w = .ok (.agg (Ta.is t.V).toArray) w := by
  have h2 : (Ta.bs t.W).length = 8 := by simp [Ta.bs, h.w]
  have h3 : (Ta.is t.V).length = 8 := by simp [Ta.is, h.v]
  have hs := Ta.size h
  simp [part, hs, Ta.arr, Ta.cells, List.take_append, List.drop_append, h2, h3, List.take_of_length_le (l := Ta.is t.V) (i := 8) (by omega)]
theorem part23e (w : World) {t : Ta} (h : t.Len) : (part 23 t.arr 16).run Try.prog w = .ok (.agg (Ta.is t.E).toArray) w := by
  have h2 : (Ta.bs t.W).length = 8 := by simp [Ta.bs, h.w]
  have h3 : (Ta.is t.V).length = 8 := by simp [Ta.is, h.v]
  have h4 : (Ta.is t.E).length = 8 := by simp [Ta.is, h.e]
  have hs := Ta.size h
  simp [part, hs, Ta.arr, Ta.cells, List.take_append, List.drop_append, h2, h3, h4, List.take_of_length_le (l := Ta.is t.E) (i := 8) (by omega), List.drop_of_length_le (l := Ta.bs t.W) (i := 16) (by omega)]

theorem Ta.eq_iff (x y : Ta) : decide (x = y) = (decide (x.W = y.W) && (decide (x.V = y.V) && decide (x.E = y.E))) := by
  obtain ⟨a, b, c⟩ := x
  obtain ⟨a', b', c'⟩ := y
  simp [Ta.mk.injEq, Bool.decide_and]
theorem eq30 (w : World) (d : Nat) {x y : Ta} (hx : x.Len) (hy : y.Len) : (Op.equalIn (d + 3) 30 (.agg x.arr) (.agg y.arr)).run Try.prog w = .ok (decide (x = y)) w := by
  rw [run_equalIn_struct w (d + 2) 30 _ _ (by simp [Program.fieldsOf]) (by simp), Ta.eq_iff]
  have e1 := eq22 w d _ _ hx.w hy.w
  have e2 := eq23 w d _ _ hx.v hy.v
  have e3 := eq23 w d _ _ hx.e hy.e
  cases h1 : decide (x.W = y.W) <;> cases h2 : decide (x.V = y.V) <;> cases h3 : decide (x.E = y.E) <;> rw [h1] at e1 <;> rw [h2] at e2 <;> rw [h3] at e3 <;>
    simp [Program.fieldsOf, Op.eqFields, part22 w hx, part22 w hy, part23v w hx, part23v w hy, part23e w hx, part23e w hy, e1, e2, e3, Result.andThen]

theorem eq25 (w : World) (d : Nat) {x y : Ta} (hx : x.Len) (hy : y.Len) : (Op.equalIn (d + 3) 25 (.agg x.arr) (.agg y.arr)).run Try.prog w = .ok (decide (x = y)) w := by
  rw [run_equalIn_struct w (d + 2) 25 _ _ (by simp [Program.fieldsOf]) (by simp), Ta.eq_iff]
  have e1 := eq22 w d _ _ hx.w hy.w
  have e2 := eq23 w d _ _ hx.v hy.v
  have e3 := eq23 w d _ _ hx.e hy.e
  cases h1 : decide (x.W = y.W) <;> cases h2 : decide (x.V = y.V) <;> cases h3 : decide (x.E = y.E) <;> rw [h1] at e1 <;> rw [h2] at e2 <;> rw [h3] at e3 <;>
    simp [Program.fieldsOf, Op.eqFields, part22 w hx, part22 w hy, part23v w hx, part23v w hy, part23e w hx, part23e w hy, e1, e2, e3, Result.andThen]

theorem bdrewN {B : Nat} {a b : World} (h : Below B a b) (n : Nat) : Below B a (b.drewN n) := ⟨h.os, h.tape, h.output, h.size, h.block⟩
theorem Bx.drewN {w : World} {B : Nat} {t : Ta} (h : Bx w B t) (n : Nat) : Bx (w.drewN n) B t := h
theorem retB {a b : Bool} (h : a = b) : Ending.returned (.bool b) = Ending.returned (.bool a) := by rw [h]

end Go.Proofs.Ytaodgilfoihkfaa
