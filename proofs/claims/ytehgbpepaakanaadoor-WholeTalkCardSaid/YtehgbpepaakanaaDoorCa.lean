/-
  Code: shaped, width, number.
-/
import Derived.Test.YtehgbpepaakanaaDoorJ
import Derived.Test.YtehgbpepaakanaaDoorSh
import Derived.Maps.AppendAt
namespace Go.Proofs.YtehgbpepaakanaaDoor
open Go.RowKit Go.Shelf
set_option linter.unusedVariables false
set_option linter.unusedSimpArgs false
set_option maxRecDepth 20000

set_option maxHeartbeats 1000000 in
theorem trim_is (s : ByteArray) (w : World) (hs : s.size ≤ 100) (ht : Lib.trimS s.data.toList [97, 98, 99, 100, 116] = []) :
    Calls Tryd.prog 61 #[.string s, .string ⟨#[97, 98, 99, 100, 116]⟩] w fun e w' => e = .returned (.string ⟨#[]⟩) ∧ Below w.heap.size w w' := by
  have hcon := Any.strings_Trim_laid Tryd.lays160 (by kernel_rfl) s ⟨#[97, 98, 99, 100, 116]⟩ w (by omega) (by decide) (ascii_of_all (by decide))
  change Calls Tryd.prog 61 _ _ (fun e w' => e = .returned (.string ⟨(Lib.trimS s.data.toList [97, 98, 99, 100, 116]).toArray⟩) ∧ Below w.heap.size w w') at hcon
  rw [ht] at hcon
  exact hcon

set_option maxHeartbeats 1000000 in
theorem shaped_is (s : ByteArray) (w : World) (hs : s.size ≤ 100) (ht : Lib.trimS s.data.toList [97, 98, 99, 100, 116] = []) :
    Calls Tryd.prog 49 #[.string s] w fun e w' => e = .returned (.bool true) ∧ Below w.heap.size w w' := by
  have hT := trim_is s w hs ht
  have h1 : (s.size : Int) ≤ 100 := by omega
  go_enter Tryd.func49, Tryd.ntmps49
  go_wp2_with (go_at_call 61; refine hT.mono ?_; rintro e w' ⟨rfl, hB⟩)
  go_ret
  exact ⟨rfl, hB⟩

theorem width_t (w : World) : Calls Tryd.prog 50 #[.int .u8 116] w fun e w' => e = .returned (.int .i64 0) ∧ w = w' := by
  go_enter Tryd.func50, Tryd.ntmps50
  go_wp2
  go_ret
  exact ⟨rfl, rfl⟩
theorem width_a (w : World) : Calls Tryd.prog 50 #[.int .u8 97] w fun e w' => e = .returned (.int .i64 1) ∧ w = w' := by
  go_enter Tryd.func50, Tryd.ntmps50
  go_wp2
  go_ret
  exact ⟨rfl, rfl⟩
theorem width_b (w : World) : Calls Tryd.prog 50 #[.int .u8 98] w fun e w' => e = .returned (.int .i64 2) ∧ w = w' := by
  go_enter Tryd.func50, Tryd.ntmps50
  go_wp2
  go_ret
  exact ⟨rfl, rfl⟩
theorem width_c (w : World) : Calls Tryd.prog 50 #[.int .u8 99] w fun e w' => e = .returned (.int .i64 4) ∧ w = w' := by
  go_enter Tryd.func50, Tryd.ntmps50
  go_wp2
  go_ret
  exact ⟨rfl, rfl⟩
theorem width_d (w : World) : Calls Tryd.prog 50 #[.int .u8 100] w fun e w' => e = .returned (.int .i64 8) ∧ w = w' := by
  go_enter Tryd.func50, Tryd.ntmps50
  go_wp2
  go_ret
  exact ⟨rfl, rfl⟩

/-- What appends make of a row of bytes. -/
def App (B : Nat) (w : World) (v : Value) (w' : World) (v' : Value) (bs' : List Int) : Prop :=
  w'.ownsRow B 5 1 v' bs'.length (cellsOf encB bs') ∧ Upd (fun k => v.ownBlock = some k) w w' ∧ (v'.ownBlock = v.ownBlock ∨ ∃ g, v'.ownBlock = some g ∧ w.heap.size ≤ g)
theorem App.refl {B : Nat} {w : World} {v : Value} {bs : List Int} (h : w.ownsRow B 5 1 v bs.length (cellsOf encB bs)) : App B w v w v bs := ⟨h, Upd.refl _ _, .inl rfl⟩
theorem App.trans {B : Nat} {w w1 w2 : World} {v v1 v2 : Value} {b1 b2 : List Int} (h : App B w v w1 v1 b1) (k : App B w1 v1 w2 v2 b2) : App B w v w2 v2 b2 := by
  obtain ⟨h1, h2, h3⟩ := h
  obtain ⟨k1, k2, k3⟩ := k
  refine ⟨k1, h2.trans k2 (fun i hi hs => ?_), ?_⟩
  · rcases h3 with e | ⟨g, e, hg⟩
    · rw [← e]; exact hs
    · rw [e] at hs; cases hs; omega
  · rcases k3 with e | ⟨g, e, hg⟩
    · rw [e]; exact h3
    · exact .inr ⟨g, e, Nat.le_trans h2.size hg⟩
theorem App.below {B : Nat} {w w' : World} {v v' : Value} {bs' : List Int} (h : App B w v w' v' bs') (hB : B ≤ w.heap.size) (hv : ∀ g, v.ownBlock = some g → B ≤ g) : Below B w w' := h.2.1.below hB (fun i hi e => by have := hv i e; omega)
theorem bytes_slice {B : Nat} {w : World} {v : Value} {bs : List Int} (h : w.ownsRow B 5 1 v bs.length (cellsOf encB bs)) : ∃ a d, v = .slice a bs.length d := by
  rcases h.2 with ⟨rfl, h0⟩ | ⟨g, cap, cur, rfl, _⟩
  · exact ⟨none, 0, by rw [h0]⟩
  · exact ⟨_, _, rfl⟩

theorem App.step {B : Nat} {w w1 w2 w3 : World} {v v1 v3 : Value} {b1 b3 : List Int} (h : App B w v w1 v1 b1) (hU : Upd (fun _ => False) w1 w2) (hown : w3.ownsRow B 5 1 v3 b3.length (cellsOf encB b3)) (hg : w2.grownBy w3 v1.ownBlock) (hat : v3.ownBlock = v1.ownBlock ∨ v3.ownBlock = some w2.heap.size) : App B w v w3 v3 b3 :=
  h.trans ⟨hown, (hU.mono (S' := fun k => v1.ownBlock = some k) (fun _ _ h => h.elim)).trans (Upd.of_grown hg) (fun i _ hs => hs), hat.imp id (fun e => ⟨_, e, hU.size⟩)⟩

/-- The j-th of w bytes of n, the greatest first. -/
def beAt (w n j : Nat) : Int := (n : Int) / 2 ^ (8 * (w - 1 - j)) % 256
def be (w n : Nat) : List Int := (List.range w).map (beAt w n)

set_option maxHeartbeats 1000000 in
theorem number_is (B : Nat) (v : Value) (bs : List Int) (n wd : Nat) (w : World) (h : w.ownsRow B 5 1 v bs.length (cellsOf encB bs)) (hB : B ≤ w.heap.size) (hn : n < 18446744073709551616) (hw : 1 ≤ wd ∧ wd ≤ 8) (hl : bs.length ≤ 1000000) :
    Calls Tryd.prog 51 #[v, .int .u64 n, .int .i64 wd] w fun e w' => ∃ v', e = .returned v' ∧ App B w v w' v' (bs ++ be wd n) := by
  obtain ⟨i0, hi0, hz0, hz1, hz2⟩ := info_parts Tryd.infoB
  have hA := App.refl h
  have hwi : (1 : Int) ≤ (wd : Int) ∧ (wd : Int) ≤ 8 := by omega
  obtain ⟨hw1, hw8⟩ := hwi
  have HA := Lib.hid hA
  clear h hA
  go_enter Tryd.func51, Tryd.ntmps51
  go_wp2_with fail
  go_loopw [0, 7] (fun bv ix wr => ∃ j : Nat, j ≤ wd ∧ ix = .int .i64 (8 * ((wd : Int) - 1 - j)) ∧ App B w v wr bv (bs ++ (List.range j).map (beAt wd n))) (fun _ ix _ => (RowKit.intOf ix + 8).toNat)
  case atStart => exact ⟨0, by omega, by simp, by simpa using HA.out⟩
  case round =>
    clear HA
    rename_i bv _
    obtain ⟨j, hj, rfl, hA⟩ := hrel
    obtain ⟨a1, c1, hbv⟩ := bytes_slice hA.1
    by_cases hlt : j < wd
    · have hge : (0 : Int) ≤ 8 * ((wd : Int) - 1 - j) := by omega
      have HA := Lib.hid hA
      subst hbv
      have hlen : (bs ++ (List.range j).map (beAt wd n)).length = bs.length + j := by simp
      have hO : Hid (wr.ownsRow B 5 1 (.slice a1 (bs.length + j) c1) (bs.length + j) (cellsOf encB (bs ++ (List.range j).map (beAt wd n)))) := by
        have := HA.out.1
        rw [hlen] at this
        exact this
      have hBr : B ≤ wr.heap.size := Nat.le_trans hB HA.out.2.1.size
      rw [hlen] at HA
      rw [hlen]
      clear hA hlen
      go_wp2_with (at_builtin; refine wpList_append_own_at _ rfl _ _ 28 rfl B 5 i0 (.int .u8 0) 1 1 Tryd.underlying28 hi0 hz0 hz1 hz2 rfl (by decide) _ _ _ rfl (hO.out.alloc _) ⟨wr.heap.size, 0, none⟩ 1 1 [.int .u8 ((n : Int) / 2 ^ (8 * (wd - 1 - j)) % 256)] rfl ?qd1 ?qd2 ?qd3 ?qd4 ?qd5 ?qd6 ?_)
      case qd1 => rfl
      case qd2 => exact cell_one_new _ _ _
      case qd3 => intro u hu; simp at hu; subst hu; rfl
      case qd4 => unfold maxLen; omega
      case qd5 => omega
      case qd6 => simp; omega
      intro v7 w7 hown7 hgrow7 hnil7 hat7
      have hA7 : App B w v w7 v7 (bs ++ (List.range (j + 1)).map (beAt wd n)) := by
        refine HA.out.step ((Upd.refl _ wr).alloc _) ?_ hgrow7 (by simpa using hat7)
        rw [List.range_succ, List.map_append, ← List.append_assoc, List.length_append, cellsOf_append]
        simpa [cellsOf, encB, beAt] using hown7
      have HA7 := Lib.hid hA7
      clear hown7 hgrow7 hnil7 hat7 hO hA7
      go_wp2_with fail
      go_roundw
      case rel => exact ⟨j + 1, by omega, by go_num, HA7.out⟩
      case measure => simp [RowKit.intOf]; omega
    · have hge : ¬ (0 : Int) ≤ 8 * ((wd : Int) - 1 - j) := by omega
      obtain rfl : j = wd := by omega
      go_wp2_with fail
      go_ret
      subst hbv
      exact ⟨_, rfl, by simpa [be] using hA⟩

end Go.Proofs.YtehgbpepaakanaaDoor
