/-
  slices.Delete of one element of int64's row.
-/
import Derived.Test.YthehhnlkpcfofaaRows
import Derived.Test.YthehhnlkpcfofaaK
import Derived.WalkKit
import Derived.WalkSpells
import Derived.WalkLawsBesides
import Derived.Deep.QuietTactic
import Derived.BigQuiet
import Derived.Lib.Hide
namespace Go.Proofs.Ythehhnlkpcfofaa
open Go.RowKit
set_option linter.unusedVariables false

theorem Try.infoE : (Try.prog.info? 2).map (fun i => (i.zero, i.size, i.bytes)) = some (some (.int .i64 0), 1, 8) := by kernel_rfl
theorem Try.zeroE (w : World) : (zeroValue 2).run Try.prog w = .ok (.int .i64 0) w := by kernel_rfl

set_option maxHeartbeats 800000 in
theorem delete1 (base g n cap i : Nat) (xs : List Value) (w : World) (hown : w.ownsRow base 2 1 (.slice (some ⟨g, 0, none⟩) n cap) n xs) (hone : ∀ u ∈ xs, u.oneCell' = true) (hi : i < n) :
    Calls Try.prog 34 #[.slice (some ⟨g, 0, none⟩) n cap, .int .i64 i, .int .i64 ((i : Int) + 1)] w fun e w' => e = .returned (.slice (some ⟨g, 0, none⟩) (n - 1) cap) ∧
      w'.ownsRow base 2 1 (.slice (some ⟨g, 0, none⟩) (n - 1) cap) (n - 1) (xs.take (i * 1) ++ xs.drop ((i + 1) * 1)) ∧ w.grownBy w' (some g) := by
  obtain ⟨i0, hi0, hz0, hz1, hz2⟩ := info_parts Try.infoE
  have hlen := hown.1
  rcases hown.2 with ⟨h', _⟩ | ⟨g', cap', cur, hv, hbase, hcur, hnc, hcm, hsz, htake⟩
  · cases h'
  simp only [Value.slice.injEq, Option.some.injEq, Addr.mk.injEq, and_true, true_and] at hv
  obtain ⟨rfl, rfl⟩ := hv
  simp only [maxLen] at hcm
  -- what is moved
  obtain ⟨news, hnews⟩ : ∃ news, news = xs.drop ((i + 1) * 1) := ⟨_, rfl⟩
  obtain ⟨hnl, hfit, hlen1, hfit2, hlen2, hres⟩ := delete_row cur.toList [.int .i64 0] news xs n i 1 cap (i + (n - (i + 1))) htake (by simpa using hsz) hnc hi hnews (by omega) rfl
  obtain ⟨A, hA, hsrc⟩ : ∃ A : Addr, (if cap = i + 1 then some (⟨g, 0, none⟩ : Addr) else some ⟨g, i + 1, none⟩) = some A ∧ Hid (∀ t u, news[t]? = some u → w.drew.cell? (A.add t) = some u) := by
    by_cases h : cap = i + 1
    · refine ⟨⟨g, 0, none⟩, by simp [h], fun t u hu => ?_⟩
      have h0 : news.length = 0 := by rw [hnl]; omega
      rw [List.length_eq_zero_iff.1 h0] at hu
      simp at hu
    · refine ⟨⟨g, i + 1, none⟩, by simp [h], fun t u hu => ?_⟩
      rw [Addr.add_lit]
      show w.cell? _ = _
      rw [blk_cell hcur, ← hu, hnews, List.getElem?_drop, ← htake, List.getElem?_take]
      have ht : t < news.length := (List.getElem?_eq_some_iff.1 hu).1
      rw [if_pos (by omega), Nat.mul_one]
      simp
  have s1 : Hid (news.length = (n - (i + 1)) * 1) := hnl
  have s2 : Hid (∀ u ∈ news, u.oneCell' = true) := fun u hu => hone u (by rw [hnews] at hu; exact List.mem_of_mem_drop hu)
  obtain ⟨W1, hW1⟩ : ∃ W1, W1 = w.drew.setRow g (cur.toList.take (i * 1) ++ news ++ cur.toList.drop (i * 1 + news.length)).toArray := ⟨_, rfl⟩
  have hW := Lib.hid hW1
  have hcur1 : W1.heap[g]? = some (.cells (cur.toList.take (i * 1) ++ news ++ cur.toList.drop (i * 1 + news.length)).toArray 2 (0, 0)) := by rw [hW1]; exact setRow_heap w.drew g cur _ 2 _ hcur
  have hU1 : Upd (fun k => some g = some k) w W1 := by rw [hW1]; exact upd_setRow ((Upd.refl _ w).drew) g _ (fun _ => rfl)
  obtain ⟨cur2, hcl, hL, hR⟩ : ∃ cur2 : Array Value, (∀ ty c, (Builtin.clear_ #[22] ty #[.slice (some ⟨g, i + (n - (i + 1)), none⟩) (n - (i + (n - (i + 1)))) c]).run Try.prog W1 = .ok (.tuple #[]) (W1.setRow g cur2)) ∧
      cur2.size = cap * 1 ∧ cur2.toList.take ((n - 1) * 1) = xs.take (i * 1) ++ xs.drop ((i + 1) * 1) :=
    ⟨_, fun ty c => run_clear_row W1 22 2 ty (.int .i64 0) [.int .i64 0] (by simp [Builtin.zeroCells, Value.cells]) Try.underlying22 Try.zeroE (by simp [Value.oneCell']) g _ _ c (by omega) _ hcur1 (by rw [List.size_toArray, hlen1]; exact hfit2),
      by rw [List.size_toArray]; exact hlen2, by rw [List.toList_toArray, ← hnews]; exact hres⟩
  have HL := Lib.hid hL
  have HR := Lib.hid hR
  clear hW1 hnews hlen2 hres hnl hL hR hlen1
  have hic : i ≤ cap := by omega
  have hjc : i + 1 ≤ cap := by omega
  have hp0 : (0 : Int) ≤ (i : Int) + 1 := by omega
  have hp1 : (i : Int) + 1 ≤ (n : Int) := by omega
  have hfit' : i * 1 + news.length ≤ cur.size := by rw [hsz]; exact hfit
  clear hfit
  go_enter Try.func34, Try.ntmps34
  go_wp2_with fail
  go_region_law (refine step_append_row rfl (.tmp 22) (.tmp 25) 22 rfl 2 i0 1 Try.underlying22 hi0 hz1 g i cap cur (by simp [Act.eval, Act.put]) hcur A (n - (i + 1)) (cap - (i + 1)) news (by simp [Act.eval, Act.put]) s1.out hsrc.out s2.out (by omega) hfit' ?_; rw [← hW.out])
  go_wp2
  go_ret
  have e : i + (n - (i + 1)) = n - 1 := by omega
  refine ⟨by rw [e]; rfl, ⟨?_, .inr ⟨g, cap, cur2, rfl, hbase, setRow_heap W1 g _ _ 2 _ hcur1, by omega, by unfold maxLen; omega, HL.out, HR.out⟩⟩, ?_⟩
  · rw [← HR.out, List.length_take, Array.length_toList, HL.out]
    omega
  · have := upd_setRow hU1 g cur2 (fun _ => rfl)
    exact ⟨this.os, this.tape, this.output, this.size, fun k hk hn => this.block k hk (fun h => hn h.symm)⟩

end Go.Proofs.Ythehhnlkpcfofaa
