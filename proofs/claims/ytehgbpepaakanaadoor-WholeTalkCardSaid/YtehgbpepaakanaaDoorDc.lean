/-
  Code: the reader.
-/
import Derived.Test.YtehgbpepaakanaaDoorDb
namespace Go.Proofs.YtehgbpepaakanaaDoor
open Go.RowKit Go.Shelf
set_option linter.unusedVariables false
set_option linter.unusedSimpArgs false
set_option maxRecDepth 20000

attribute [local go_sem] Oper.semAt_some

/-- A reader at block B, with the bytes bs left; these lie ahead of B. -/
def RS (w : World) (B : Nat) (bs : List Int) : Prop :=
  ∃ a m d, w.heap[B]? = some (.cells #[.slice a m d, .bool false] 136 (0, 0)) ∧ BR w a m d bs ∧ (bs ≠ [] → ∀ p, a = some p → p.block < B)

theorem RS.keep {w w' : World} {B : Nat} {bs : List Int} (h : RS w B bs) {S : Nat → Prop} (hu : Upd S w w') (hS : ∀ k, S k → B < k) : RS w' B bs := by
  obtain ⟨a, m, d, h1, h2, h3⟩ := h
  refine ⟨a, m, d, hu.heap h1 (fun h => by have := hS _ h; omega), ?_, h3⟩
  rcases h2 with h | ⟨b, off, rfl, hlt, hl, hd, hdm, hc⟩
  · exact .inl h
  · refine .inr ⟨b, off, rfl, Nat.lt_of_lt_of_le hlt hu.size, hl, hd, hdm, fun j y hj => hu.cell (hc j y hj) (fun e => ?_)⟩
    have hne : bs ≠ [] := by rintro rfl; simp at hj
    have h5 := h3 hne _ rfl
    have h6 := hS _ e
    simp only at h5 h6
    omega

theorem BR.past {w w' : World} {a : Option Addr} {m d : Nat} {bs : List Int} (h : BR w a m d bs) {B m' d' : Nat} {a' : Option Addr} {x : Bool} (hb : w.heap[B]? = some (.cells #[.slice a' m' d', .bool x] 136 (0, 0))) (hu : Upd (fun k => k = B) w w') : BR w' a m d bs := by
  rcases h with h | ⟨b, off, rfl, hlt, hl, hd, hdm, hc⟩
  · exact .inl h
  · refine .inr ⟨b, off, rfl, Nat.lt_of_lt_of_le hlt hu.size, hl, hd, hdm, fun j y hj => ?_⟩
    have h1 := hc j y hj
    refine hu.cell h1 (fun e => ?_)
    simp only at e
    subst e
    rw [blk_cell hb] at h1
    rcases ho : off + j with _ | _ | k
    · rw [ho] at h1; simp at h1
    · rw [ho] at h1; simp at h1
    · rw [ho] at h1; simp at h1
theorem BR.take {w : World} {b off m d : Nat} {bs : List Int} (h : BR w (some ⟨b, off, none⟩) m d bs) {n : Nat} (hn : n ≤ m) : BR w (some ⟨b, off, none⟩) n d (bs.take n) := by
  rcases h with ⟨rfl, rfl, rfl⟩ | ⟨b', off', e, hlt, hl, hd, hdm, hc⟩
  · obtain rfl : n = 0 := by omega
    exact .inl ⟨rfl, rfl, rfl⟩
  · refine .inr ⟨b', off', e, hlt, by rw [List.length_take]; omega, by omega, hdm, fun j y hj => ?_⟩
    rw [List.getElem?_take] at hj
    split at hj
    · exact hc j y hj
    · cases hj
theorem BR.drop {w : World} {b off m d : Nat} {bs : List Int} (h : BR w (some ⟨b, off, none⟩) m d bs) {n : Nat} (hn : n ≤ m) (hnd : n < d) : BR w (some ⟨b, off + n, none⟩) (m - n) (d - n) (bs.drop n) := by
  rcases h with ⟨rfl, rfl, rfl⟩ | ⟨b', off', e, hlt, hl, hd, hdm, hc⟩
  · omega
  · cases e
    refine .inr ⟨b, off + n, rfl, hlt, by rw [List.length_drop]; omega, by omega, by omega, fun j y hj => ?_⟩
    rw [List.getElem?_drop] at hj
    have := hc _ y hj
    rwa [← Nat.add_assoc] at this

set_option maxHeartbeats 1000000 in
theorem take_is (B : Nat) (bs : List Int) (n : Nat) (w : World) (h : RS w B bs) (hn : n ≤ bs.length) :
    Calls Tryd.prog 59 #[.pointer (some ⟨B, 0, none⟩), .int .i64 n] w fun e w' => ∃ a' d', e = .returned (.slice a' n d') ∧ BR w' a' n d' (bs.take n) ∧ RS w' B (bs.drop n) ∧ Upd (fun k => k = B) w w' := by
  obtain ⟨a, m, d, h1, h2, h3⟩ := h
  have H3 := Lib.hid h3
  clear h3
  have c0 := blk_cell h1 0
  have c1 := blk_cell h1 1
  have f0 := blk_frozen h1 0
  simp at c0 c1
  have H1 := Lib.hid h1
  have hs := Lib.hid (fun u => blk_set h1 0 u)
  clear h1
  rcases h2 with ⟨rfl, rfl, rfl⟩ | ⟨b, off, rfl, hb, hl, hmd, hd, hc⟩
  · obtain rfl : n = 0 := by simpa using hn
    cases a with
    | none =>
      go_enter Tryd.func59, Tryd.ntmps59
      go_wp2_with fail
      go_ret
      refine ⟨none, 0, rfl, .inl ⟨rfl, rfl, rfl⟩, ⟨none, 0, 0, by simpa using hs.out (.slice none 0 0), .inl ⟨rfl, rfl, rfl⟩, fun h => absurd rfl h⟩, (Upd.refl (fun k => k = B) w).setCell ⟨B, 0, none⟩ _ (fun _ => rfl)⟩
    | some a =>
      go_enter Tryd.func59, Tryd.ntmps59
      go_wp2_with fail
      go_ret
      refine ⟨some a, 0, rfl, .inl ⟨rfl, rfl, rfl⟩, ⟨some a, 0, 0, by simpa using hs.out (.slice (some a) 0 0), .inl ⟨rfl, rfl, rfl⟩, fun h => absurd rfl h⟩, (Upd.refl (fun k => k = B) w).setCell ⟨B, 0, none⟩ _ (fun _ => rfl)⟩
  · have HR := Lib.hid (show BR w (some ⟨b, off, none⟩) m d bs from .inr ⟨b, off, rfl, hb, hl, hmd, hd, hc⟩)
    have hnm : n ≤ m := by omega
    have hnm1 : (n : Int) ≤ (m : Int) := by omega
    have hnm2 : ¬ (m : Int) < (n : Int) := by omega
    have hnm3 : (n : Int) ≤ (d : Int) := by omega
    have hnm4 : n ≤ d := by omega
    clear hc hl hn
    by_cases hdn : d = n
    · obtain rfl : m = n := by omega
      subst hdn
      go_enter Tryd.func59, Tryd.ntmps59
      go_wp2_with fail
      go_ret
      have hU : Upd (fun k => k = B) w (w.setCell ⟨B, 0, none⟩ (.slice (some ⟨b, off, none⟩) 0 0)) := (Upd.refl (fun k => k = B) w).setCell ⟨B, 0, none⟩ _ (fun _ => rfl)
      have hlen := HR.out.len
      refine ⟨_, _, rfl, (HR.out.take (Nat.le_refl _)).past H1.out hU, ⟨some ⟨b, off, none⟩, 0, 0, by simpa using hs.out (.slice (some ⟨b, off, none⟩) 0 0), .inl ⟨rfl, rfl, List.drop_of_length_le (by omega)⟩, fun h => absurd (List.drop_of_length_le (by omega)) h⟩, hU⟩
    · go_enter Tryd.func59, Tryd.ntmps59
      go_wp2_with fail
      go_ret
      have hU : Upd (fun k => k = B) w (w.setCell ⟨B, 0, none⟩ (.slice (some ⟨b, off + n, none⟩) (m - n) (d - n))) := (Upd.refl (fun k => k = B) w).setCell ⟨B, 0, none⟩ _ (fun _ => rfl)
      exact ⟨_, _, rfl, (HR.out.take hnm).past H1.out hU, ⟨some ⟨b, off + n, none⟩, m - n, d - n, by simpa using hs.out (.slice (some ⟨b, off + n, none⟩) (m - n) (d - n)), (HR.out.drop hnm (by omega)).past H1.out hU, fun h p hp => by cases hp; exact H3.out (fun e => h (by rw [e]; exact List.drop_nil)) ⟨b, off, none⟩ rfl⟩, hU⟩
end Go.Proofs.YtehgbpepaakanaaDoor
