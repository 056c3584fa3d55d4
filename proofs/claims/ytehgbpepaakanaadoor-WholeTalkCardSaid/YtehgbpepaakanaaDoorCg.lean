/-
  Frame.
-/
import Derived.Test.YtehgbpepaakanaaDoorCf
namespace Go.Proofs.YtehgbpepaakanaaDoor
open Go.RowKit Go.Shelf
set_option linter.unusedVariables false
set_option linter.unusedSimpArgs false
set_option maxRecDepth 20000

attribute [local go_sem] Oper.semAt_some

theorem ownsRow_lit (w : World) (cs : Array Value) (k : Nat) (hk : cs.size = k) (hm : k ≤ maxLen) : (w.alloc (.cells cs 5)).ownsRow w.heap.size 5 1 (.slice (some ⟨w.heap.size, 0, none⟩) k k) k cs.toList := by
  refine ⟨by simp [hk], .inr ⟨w.heap.size, k, cs, rfl, Nat.le_refl _, World.alloc_heap_new w _, Nat.le_refl _, hm, by omega, ?_⟩⟩
  rw [Nat.mul_one, ← hk]
  exact List.take_of_length_le (by simp)

def hdr (bs : List Int) : List Int := 1 :: ((bs.length : Int) / 256 % 256) :: ((bs.length : Int) % 256) :: bs
def tl4 (s : Int) : List Int := [s / 16777216 % 256, s / 65536 % 256, s / 256 % 256, s % 256]
/-- The frame of bytes. -/
def frameOf (bs : List Int) : List Int := hdr bs ++ tl4 (sumOf (hdr bs))
theorem hdr_len (bs : List Int) : (hdr bs).length = bs.length + 3 := by simp [hdr]
theorem frameOf_len (bs : List Int) : (frameOf bs).length = bs.length + 7 := by simp [frameOf, hdr, tl4]
theorem hdr_byts {bs : List Int} (h : Byts bs) : Byts (hdr bs) := by
  intro x hx
  simp only [hdr, List.mem_cons] at hx
  rcases hx with rfl | rfl | rfl | hx
  · decide
  · omega
  · omega
  · exact h x hx
theorem frameOf_byts {bs : List Int} (h : Byts bs) : Byts (frameOf bs) := by
  intro x hx
  rcases List.mem_append.1 hx with hx | hx
  · exact hdr_byts h x hx
  · simp only [tl4, List.mem_cons, List.not_mem_nil, or_false] at hx
    rcases hx with rfl | rfl | rfl | rfl <;> omega
theorem sumOf_range (bs : List Int) : 0 ≤ sumOf bs ∧ sumOf bs < 4294967296 := by unfold sumOf; omega

set_option maxHeartbeats 1000000 in
theorem frame_is (b off m d : Nat) (bs : List Int) (w : World) (hb : b < w.heap.size) (hlen : bs.length = m) (hm : m ≤ 4000) (hd : m ≤ d) (hd2 : (d : Int) ≤ 9223372036854775807)
    (hc : ∀ j x, bs[j]? = some x → w.cell? ⟨b, off + j, none⟩ = some (.int .u8 x)) (hB : Byts bs) :
    Calls Tryd.prog 28 #[.slice (some ⟨b, off, none⟩) m d] w fun e w' => ∃ a' c', e = .returned (.tuple #[.slice a' (m + 7) c', .int .i64 0]) ∧ w'.ownsRow w.heap.size 5 1 (.slice a' (m + 7) c') (m + 7) (cellsOf encB (frameOf bs)) ∧ Below w.heap.size w w' := by
  obtain ⟨i0, hi0, hz0, hz1, hz2⟩ := info_parts Tryd.infoB
  have hm1 : (m : Int) ≤ 4000 := by omega
  have hh : hdr bs = 1 :: ((m : Int) / 256) :: ((m : Int) % 256) :: bs := by
    have e : (m : Int) / 256 % 256 = (m : Int) / 256 := by omega
    unfold hdr; rw [hlen, e]
  have hown0 := ownsRow_lit w #[.int .u8 1, .int .u8 ((m : Int) / 256), .int .u8 ((m : Int) % 256)] 3 rfl (by decide)
  have HC := Lib.hid hc
  have HH := Lib.hid hh
  have HL : Hid ((cellsOf encB bs).length = m * 1) := by
    have := cellsOf_length encB 1 encB_len bs; rw [hlen] at this; exact this
  have HO := Lib.hid hown0
  have hcells : Hid (∀ (j : Nat) u, (cellsOf encB bs)[j]? = some u → w.cell? ⟨b, off + j, none⟩ = some u) := by
    intro j u hu
    have hj : j < bs.length * 1 := by have := (List.getElem?_eq_some_iff.1 hu).1; rwa [cellsOf_length encB 1 encB_len] at this
    obtain ⟨x, hx⟩ : ∃ x, bs[j]? = some x := ⟨_, List.getElem?_eq_getElem (by omega)⟩
    have e := cellsOf_at encB 1 encB_len bs j 0 x hx (by omega)
    rw [Nat.mul_one, Nat.add_zero, hu] at e
    rw [hc j x hx]
    simp [encB] at e
    rw [e]
  clear hc hh hown0
  go_enter Tryd.func28, Tryd.ntmps28
  go_wp2_with (at_builtin; refine wpList_append_own_at _ rfl _ _ 28 rfl w.heap.size 5 i0 (.int .u8 0) 1 1 Tryd.underlying28 hi0 hz0 hz1 hz2 rfl (by decide) _ _ _ rfl HO.out ⟨b, off, none⟩ m d (cellsOf encB bs) rfl ?qa1 ?qa2 ?qa3 ?qa4 ?qa5 ?qa6 ?_)
  case qa1 => have := HL.out; omega
  case qa2 =>
    intro j u hj
    exact hcells.out j u hj
  case qa3 => exact encB_one bs
  case qa4 => unfold maxLen; omega
  case qa5 => omega
  intro v1 w1 hown1 hgrow1 hnil1 hat1
  have hown1' : w1.ownsRow w.heap.size 5 1 v1 (m + 3) (cellsOf encB (hdr bs)) := by
    rw [Nat.add_comm m 3]; rw [HH.out]; exact hown1
  have hB1 : Below w.heap.size w w1 := ((Below.refl _ w).alloc (Nat.le_refl _) _).grown hgrow1 (by simp) (by intro k hk; simp [Value.ownBlock] at hk; omega)
  have hl3 : (hdr bs).length = m + 3 := by rw [hdr_len, hlen]
  obtain ⟨a1, c1, rfl⟩ := bytes_slice (by rw [hl3]; exact hown1')
  rw [hl3] at hown1' ⊢
  have hR1 : BR w1 a1 (m + 3) c1 (hdr bs) := by
    refine BS.read ?_
    have := ownsRow_base (base' := 0) hown1' (fun _ _ => Nat.zero_le _)
    unfold BS; rw [hl3]; exact this
  obtain ⟨b1, o1, rfl, hlt1, -, hd1, hd1b, hc1⟩ : ∃ b1 o1, a1 = some ⟨b1, o1, none⟩ ∧ b1 < w1.heap.size ∧ True ∧ m + 3 ≤ c1 ∧ (c1 : Int) ≤ 9223372036854775807 ∧ ∀ j x, (hdr bs)[j]? = some x → w1.cell? ⟨b1, o1 + j, none⟩ = some (.int .u8 x) := by
    rcases hR1 with ⟨h, _⟩ | ⟨b1, o1, e, h1, _, h2, h3, h4⟩
    · omega
    · exact ⟨b1, o1, e, h1, trivial, h2, h3, h4⟩
  have HS := Lib.hid (sum_is b1 o1 (m + 3) c1 (hdr bs) w1 hlt1 hl3 (by omega) hd1 hd1b hc1 (hdr_byts hB))
  have HO1 := Lib.hid hown1'
  clear hc1 hown1 hown1' hgrow1 hnil1 hat1 hR1 HC
  have hs := sumOf_range (hdr bs)
  obtain ⟨s, hs'⟩ : ∃ s, s = sumOf (hdr bs) := ⟨_, rfl⟩
  rw [← hs'] at hs HS
  have HSS := Lib.hid hs'
  clear hs'
  obtain ⟨hs0, hs1⟩ := hs
  go_wp2_with fail
  refine HS.out.mono ?_
  rintro e w2 ⟨rfl, hB2⟩
  have hB02 := hB1.trans (hB2.mono hB1.size)
  have hown2 := ownsRow_upd HO1.out (Upd.of_below hB2 (fun _ => False)) (fun _ _ h => h)
  have HO2 := Lib.hid (ownsRow_upd hown2 ((Upd.refl (fun _ => False) w2).alloc (.cells #[.int .u8 (s / 16777216), .int .u8 (s / 65536 % 256), .int .u8 (s / 256 % 256), .int .u8 (s % 256)] 5)) (fun _ _ h => h))
  clear hown2
  go_wp2_with (at_builtin; refine wpList_append_own_at _ rfl _ _ 28 rfl w.heap.size 5 i0 (.int .u8 0) 1 1 Tryd.underlying28 hi0 hz0 hz1 hz2 rfl (by decide) _ _ _ rfl HO2.out ⟨w2.heap.size, 0, none⟩ 4 4 (cellsOf encB (tl4 s)) rfl ?qb1 ?qb2 ?qb3 ?qb4 ?qb5 ?qb6 ?_)
  case qb1 => rfl
  case qb2 =>
    intro j u hj
    have e : cellsOf encB (tl4 s) = (#[Value.int .u8 (s / 16777216), .int .u8 (s / 65536 % 256), .int .u8 (s / 256 % 256), .int .u8 (s % 256)] : Array Value).toList := by
      have e1 : s / 16777216 % 256 = s / 16777216 := by omega
      simp only [tl4, e1]; rfl
    rw [e, Array.getElem?_toList] at hj
    rw [Addr.add_lit]
    rw [blk_cell (World.alloc_heap_new w2 _), Nat.zero_add]
    exact hj
  case qb3 => exact encB_one _
  case qb4 => unfold maxLen; omega
  case qb5 => omega
  case qb6 => have := hB02.size; simp; omega
  intro v3 w3 hown3 hgrow3 hnil3 hat3
  have hB3 : Below w.heap.size w w3 := ((hB02.alloc hB02.size _)).grown hgrow3 (by have := hB02.size; simp; omega) (fun k hk => (HO2.out.lt k hk).1)
  have hown4 : w3.ownsRow w.heap.size 5 1 v3 (m + 7) (cellsOf encB (frameOf bs)) := by
    unfold frameOf
    rw [cellsOf_append, ← HSS.out]
    exact hown3
  have hl7 : (frameOf bs).length = m + 7 := by rw [frameOf_len, hlen]
  obtain ⟨a3, c3, rfl⟩ := bytes_slice (by rw [hl7]; exact hown4)
  rw [hl7] at hown4 ⊢
  have HO4 := Lib.hid hown4
  clear hown3 hgrow3 hnil3 hat3 hown4
  go_wp2_with fail
  go_ret2
  exact ⟨a3, c3, rfl, HO4.out, hB3⟩
end Go.Proofs.YtehgbpepaakanaaDoor
