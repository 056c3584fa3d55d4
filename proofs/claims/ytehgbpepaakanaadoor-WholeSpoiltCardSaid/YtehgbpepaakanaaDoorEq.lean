/-
  Equality of messages.
-/
import Derived.Test.YtehgbpepaakanaaDoorDg
namespace Go.Proofs.YtehgbpepaakanaaDoor
open Go.RowKit Go.Shelf
set_option linter.unusedVariables false
set_option linter.unusedSimpArgs false
set_option maxRecDepth 20000

theorem loop_len (bs : ByteArray) (n i : Nat) (r : List UInt8) (h : bs.size - i ≤ n) : r.length ≤ (ByteArray.toList.loop bs i r).length := by
  induction n generalizing i r with
  | zero =>
    unfold ByteArray.toList.loop
    rw [if_neg (by omega)]
    simp
  | succ n ih =>
    unfold ByteArray.toList.loop
    split
    · exact Nat.le_trans (by simp) (ih (i + 1) _ (by omega))
    · simp
theorem toList_nil (s : ByteArray) (h : s.toList = []) : s = ⟨#[]⟩ := by
  by_cases hs : s.size = 0
  · apply ByteArray.ext
    exact Array.eq_empty_of_size_eq_zero hs
  · exfalso
    unfold ByteArray.toList ByteArray.toList.loop at h
    rw [if_pos (by omega)] at h
    have := loop_len s s.size (0 + 1) [s.get! 0] (by omega)
    rw [h] at this
    simp at this

attribute [local go_sem] Oper.semAt_some

set_option maxHeartbeats 2000000 in
theorem eq23z (w : World) (ki fr tt me : Int) (s : ByteArray) : (Op.equalIn 10000 23 (.agg #[.int .i64 ki, .int .u8 fr, .int .u8 tt, .int .i64 me, .string s]) (.agg #[.int .i64 0, .int .u8 0, .int .u8 0, .int .i64 0, .string ⟨#[]⟩])).run Tryd.prog w =
    .ok (decide (ki = 0 ∧ fr = 0 ∧ tt = 0 ∧ me = 0 ∧ s = ⟨#[]⟩)) w := by
  by_cases h1 : ki = 0
  · by_cases h2 : fr = 0
    · by_cases h3 : tt = 0
      · by_cases h4 : me = 0
        · by_cases h5 : s = ⟨#[]⟩
          · subst h5
            go_simp
          · go_simp
            exact fun h => h5 (toList_nil s h)
        · go_simp
      · go_simp
    · go_simp
  · go_simp
end Go.Proofs.YtehgbpepaakanaaDoor
