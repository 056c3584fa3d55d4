/-
  slices.DeleteFunc of packets, with party.Acked's closure.
-/
import Derived.Test.YtehgbpepaakanaaDoorTe
namespace Go.Proofs.YtehgbpepaakanaaDoor
open Go.RowKit
set_option linter.unusedVariables false
set_option linter.unusedSimpArgs false
set_option maxRecDepth 20000

attribute [local go_sem] Oper.semAt_some

/-- The row behind j steps of DeleteFunc. -/
def rowJ (ps : List Pk) (h j : Nat) : List Pk := (ps.drop h).take (j - h) ++ ps.drop (j - h)
theorem rowJ_old (ps : List Pk) (h j : Nat) (hj : j ≤ h) : rowJ ps h j = ps := by
  unfold rowJ
  rw [show j - h = 0 by omega]; simp
theorem rowJ_len (ps : List Pk) (h j : Nat) (hj : j ≤ ps.length) : (rowJ ps h j).length = ps.length := by
  unfold rowJ
  simp only [List.length_append, List.length_take, List.length_drop]; omega
theorem rowJ_at (ps : List Pk) (h j : Nat) (hj : j < ps.length) : (rowJ ps h j)[j]? = ps[j]? := by
  unfold rowJ
  have hl : ((ps.drop h).take (j - h)).length = j - h := by simp only [List.length_take, List.length_drop]; omega
  rw [List.getElem?_append_right (by omega), hl, List.getElem?_drop]
  congr 1
  omega
theorem rowJ_keep (ps : List Pk) (h j : Nat) (x : Pk) (hx : ps[j]? = some x) (hj : h ≤ j) : rowJ ps h (j + 1) = (rowJ ps h j).set (j - h) x := by
  have hlt : j < ps.length := (List.getElem?_eq_some_iff.1 hx).1
  have hl : ((ps.drop h).take (j - h)).length = j - h := by simp only [List.length_take, List.length_drop]; omega
  unfold rowJ
  have hd : ps.drop (j - h) = ps[j - h]'(by omega) :: ps.drop (j - h + 1) := List.drop_eq_getElem_cons (by omega)
  rw [List.set_append_right _ _ (by omega), hl, Nat.sub_self, hd, List.set_cons_zero, show j + 1 - h = j - h + 1 by omega, List.take_add_one, List.getElem?_drop, show h + (j - h) = j by omega, hx]
  simp
theorem rowJ_end (ps : List Pk) (h : Nat) (hh : h ≤ ps.length) : (rowJ ps h ps.length).take (ps.length - h) = ps.drop h := by
  unfold rowJ
  rw [List.take_append_of_le_length (by simp), List.take_take, Nat.min_self, List.take_of_length_le (by simp)]
theorem cellsPk_set (zs : List Pk) (i : Nat) (x : Pk) : cellsOf encPk (zs.set i x) = ((cellsOf encPk zs).set (i * 2) (.int .i64 x.q)).set (i * 2 + 1) (.string x.s) := by
  induction zs generalizing i with
  | nil => simp [cellsOf]
  | cons z r ih =>
    cases i with
    | zero => simp [cellsOf, encPk]
    | succ i =>
      have e : ∀ (L : List Value) (k : Nat) (v : Value), (encPk z ++ L).set (k + 2) v = encPk z ++ L.set k v := fun L k v => by simp [encPk]
      have hi := ih i
      simp only [cellsOf, List.set_cons_succ, List.flatMap_cons] at hi ⊢
      rw [hi, show (i + 1) * 2 = i * 2 + 2 by omega, show i * 2 + 2 + 1 = (i * 2 + 1) + 2 by omega, e, e]

/-- 'clear(s)' in a row that is known whole. -/
theorem run_clear_any {P : Program} (w : World) (t e ty : TypeId) (z : Value) (zs : List Value) (m : Nat) (hzs : (Builtin.zeroCells z.cells m).toList = zs) (ht : P.underlying t = some (.slice e)) (hv : ∀ w, (zeroValue e).run P w = .ok z w) (h1 : ∀ u ∈ zs, u.oneCell' = true) (g o c : Nat) (cur : Array Value) (hcur : w.heap[g]? = some (.cells cur e (0, 0)))
    (hfit : o + zs.length ≤ cur.size) (hm : 0 < m) :
    (Builtin.clear_ #[t] ty #[.slice (some ⟨g, o, none⟩) m c]).run P w = .ok (.tuple #[]) (w.setRow g (cur.toList.take o ++ zs ++ cur.toList.drop (o + zs.length)).toArray) := by
  subst hzs
  obtain ⟨m, rfl⟩ : ∃ k, m = k + 1 := ⟨m - 1, by omega⟩
  have hst := run_storeCells_at P g o e (Builtin.zeroCells z.cells (m + 1)).toList 0 cur w hcur (by simpa using hfit) h1
  simp only [Nat.add_zero] at hst
  simp [Builtin.clear_, run_underlying ht, hv, hst]
theorem zeroPk (m : Nat) : (Builtin.zeroCells (Value.agg #[.int .i64 0, .string ⟨#[]⟩]).cells m).toList.length = m * 2 ∧ ∀ u ∈ (Builtin.zeroCells (Value.agg #[.int .i64 0, .string ⟨#[]⟩]).cells m).toList, u.oneCell' = true := by
  have hc : (Value.agg #[.int .i64 0, .string ⟨#[]⟩]).cells = #[.int .i64 0, .string ⟨#[]⟩] := by simp [Value.cells]
  rw [hc]
  refine ⟨by simp [Builtin.zeroCells], ?_⟩
  intro u hu
  simp only [Builtin.zeroCells, Array.toList_map, List.mem_map] at hu
  obtain ⟨i, -, rfl⟩ := hu
  have hm : i % 2 < 2 := Nat.mod_lt _ (by decide)
  show (#[Value.int .i64 0, Value.string ⟨#[]⟩][i % 2]!).oneCell' = true
  rcases (show i % 2 = 0 ∨ i % 2 = 1 by omega) with h | h <;> rw [h] <;> rfl
theorem Tryd.zeroPk (w : World) : (zeroValue 54).run Tryd.prog w = .ok (.agg #[.int .i64 0, .string ⟨#[]⟩]) w := by kernel_rfl
end Go.Proofs.YtehgbpepaakanaaDoor
