/-
  The contracts of Put, of the program and of the reference.
-/
import Derived.Test.YtaodgilfoihkfaaC
namespace Go.Proofs.Ytaodgilfoihkfaa
open Go.RowKit
set_option linter.unusedVariables false
set_option linter.unusedSimpArgs false

attribute [local go_sem ↓] ld22 ld23 ld25 ld30 st22 st23 st25 st30

theorem hear_ok {t : Ta} {who : Nat} {ep : Int} (h : (t.hear who ep).2 = 0) : who < 8 := by
  unfold Ta.hear at h
  split at h
  · simp at h
  · split at h
    · simp at h
    · rename_i h2
      simp at h2
      omega

theorem Ta.setV_same {t : Ta} (hl : t.Len) {k : Nat} (hk : k < 8) {x : Int} (h : t.v k = x) : t.setV k x = t := by
  obtain ⟨W, V, E⟩ := t
  simp only [Ta.setV, Ta.mk.injEq, true_and, and_true]
  refine List.ext_getElem? fun i => ?_
  rw [List.getElem?_set]
  have hv : V.length = 8 := hl.v
  split
  · rename_i hi
    subst hi
    rw [if_pos (by omega)]
    rw [← h]
    simp [Ta.v, List.getD, hv, hk]
  · rfl

set_option maxHeartbeats 3200000 in
theorem put_is (t : Ta) (hl : t.Len) (who : Nat) (ep vote : Int) (w : World) :
    Calls Try.prog 11 #[TV t, .int .u8 who, .int .i64 ep, .int .i64 vote] w fun e w' => e = .returned (.tuple #[TV (t.put who ep vote).1, .int .i64 (t.put who ep vote).2]) ∧ Below w.heap.size w w' := by
  obtain ⟨hb0, hb1, hB⟩ := two w t 30
  have l30 := hb0.load30 hl
  by_cases hv : vote ≠ 1 ∧ vote ≠ 2
  · have s30 := hb1.sto30 zero_len hl
    have BR := Lib.hid (hb1.row t)
    have BW := Lib.hid (brow (g := w.heap.size + 1) hB (by omega) t.arr)
    have HR := Lib.hid (show t.put who ep vote = (t, 2) by unfold Ta.put; rw [if_pos hv])
    obtain ⟨v1, v2⟩ := hv
    have v1c : (vote != 1) = true := by simpa using v1
    have v2c : (vote != 2) = true := by simpa using v2
    clear hb0 hb1 hB
    go_enter Try.func11, Try.ntmps11
    go_wp2_with fail
    refine bodyPost_ret (res_cell Try.results11 (.inl rfl) _ _ (w.heap.size + 1) t hl _ rfl rfl BR.out) rfl ⟨retT HR.out, BW.out⟩
  have hR : t.put who ep vote = if (t.hear who ep).2 ≠ 0 then (t, (t.hear who ep).2)
      else if (t.hear who ep).1.v who = 0 then ((t.hear who ep).1.setV who vote, 0)
      else if (t.hear who ep).1.v who ≠ vote then (t, 8)
      else ((t.hear who ep).1, 0) := by rw [Ta.put, if_neg hv]
  have HR := Lib.hid hR
  have HV : (vote = 1 ∧ (vote != 1) = false) ∨ (vote = 2 ∧ (vote != 2) = false ∧ (vote != 1) = true) := by
    by_cases h1 : vote = 1
    · subst h1; simp
    · by_cases h2 : vote = 2
      · subst h2; simp
      · exact absurd ⟨h1, h2⟩ hv
  clear hR hv
  have hvt : vote ≠ 0 := by omega
  have hk := fun h => hear_ok (t := t) (who := who) (ep := ep) h
  have HK := Lib.hid hk
  have hlu := hl.hear who ep
  clear hk
  have main : ∀ (W : World), Calls Try.prog 13 #[TV t, .int .u8 who, .int .i64 ep] W fun e w' => e = .returned (.tuple #[TV (t.hear who ep).1, .int .i64 (t.hear who ep).2]) ∧ Below W.heap.size W w' := fun W => hear_is t hl who ep W
  have MN := Lib.hid main
  clear main
  generalize t.hear who ep = R at *
  obtain ⟨u, er⟩ := R
  simp only at hlu
  go_enter Try.func11, Try.ntmps11
  rcases HV with ⟨rfl, v1⟩ | ⟨rfl, v2, v1⟩
  · go_wp2_with fail
    refine (MN.out _).mono ?_
    rintro e w1 ⟨rfl, hB1⟩
    have b0 := hb0.below hB1
    have b1 := hb1.below hB1
    have hBw : Below w.heap.size w w1 := hB.trans (hB1.mono hB.size)
    clear hb0 hb1 hB hB1 l30
    have hlt1 := b1.lt
    have hn0 : w1.heap.size ≠ w.heap.size := by omega
    have hn1 : w1.heap.size ≠ w.heap.size + 1 := by omega
    have s2 := (bx_zero w1 30).sto30 zero_len hlu
    have c2 := (bx_zero w1 30).row u
    have c0 := (b0.alloc (.cells zlit 30)).far (b := w1.heap.size) (Ne.symm hn0) u.arr
    have c1 := (b1.alloc (.cells zlit 30)).far (b := w1.heap.size) (Ne.symm hn1) u.arr
    have BC := brow (g := w1.heap.size) (hBw.alloc hBw.size (.cells zlit 30)) hBw.size u.arr
    clear b0 b1
    have l0 := c0.load30 hl
    have l2 := c2.load30 hlu
    by_cases her : er = 0
    · subst her
      have hlt := HK.out rfl
      have h8 : (who : Int) < 8 := by omega
      have cv := c2.cv hlu hlt
      have fv := c2.fr (8 + who)
      obtain ⟨v, hv⟩ : ∃ q, u.v who = q := ⟨_, rfl⟩
      rw [hv] at cv
      by_cases h0 : v = 0
      · have HR2 := Lib.hid (HR.out.trans (show _ = (u.setV who 1, 0) by simp [hv, h0]))
        have d2 := c2.setV hlu hlt 1
        have hl2 := hlu.setV who 1
        have d1 := c1.farc ⟨w1.heap.size, 8 + who, none⟩ (Ne.symm hn1) (.int .i64 1)
        have ld2 := d2.load30 hl2
        have sd1 := d1.sto30 zero_len hl2
        have BR := Lib.hid (d1.row (u.setV who 1))
        have BW := Lib.hid (brow (g := w.heap.size + 1) (BC.setCell (p := ⟨w1.heap.size, 8 + who, none⟩) hBw.size (.int .i64 1)) (by omega) (u.setV who 1).arr)
        subst h0
        clear c0 c1 c2 d1 d2 hv BC hBw HR
        go_wp2_with fail
        refine bodyPost_ret (res_cell Try.results11 (.inl rfl) _ _ (w.heap.size + 1) _ hl2 _ rfl rfl BR.out) rfl ⟨retT HR2.out, BW.out⟩
      · have h0b : (v == 0) = false := by simpa using h0
        by_cases h1 : v = 1
        · have HR2 := Lib.hid (HR.out.trans (show _ = (u, 0) by simp [hv, h1]))
          have sd1 := c1.sto30 zero_len hlu
          have BR := Lib.hid (c1.row u)
          have BW := Lib.hid (brow (g := w.heap.size + 1) BC (by omega) u.arr)
          subst h1
          clear c0 c1 c2 hv BC hBw HR
          go_wp2_with fail
          refine bodyPost_ret (res_cell Try.results11 (.inl rfl) _ _ (w.heap.size + 1) _ hlu _ rfl rfl BR.out) rfl ⟨retT HR2.out, BW.out⟩
        · have h1b : (v != 1) = true := by simpa using h1
          have HR2 := Lib.hid (HR.out.trans (show _ = (t, 8) by simp [hv, h0, h1]))
          have sd1 := c1.sto30 zero_len hl
          have BR := Lib.hid (c1.row t)
          have BW := Lib.hid (brow (g := w.heap.size + 1) BC (by omega) t.arr)
          clear c0 c1 c2 hv BC hBw HR
          go_wp2_with fail
          refine bodyPost_ret (res_cell Try.results11 (.inl rfl) _ _ (w.heap.size + 1) _ hl _ rfl rfl BR.out) rfl ⟨retT HR2.out, BW.out⟩
    · have herb : (er != 0) = true := by simpa using her
      have HR2 := Lib.hid (HR.out.trans (show _ = (t, er) by simp [her]))
      have sd1 := c1.sto30 zero_len hl
      have BR := Lib.hid (c1.row t)
      have BW := Lib.hid (brow (g := w.heap.size + 1) BC (by omega) t.arr)
      clear c0 c1 c2 BC hBw HR
      go_wp2_with fail
      refine bodyPost_ret (res_cell Try.results11 (.inl rfl) _ _ (w.heap.size + 1) _ hl _ rfl rfl BR.out) rfl ⟨retT HR2.out, BW.out⟩
  · go_wp2_with fail
    refine (MN.out _).mono ?_
    rintro e w1 ⟨rfl, hB1⟩
    have b0 := hb0.below hB1
    have b1 := hb1.below hB1
    have hBw : Below w.heap.size w w1 := hB.trans (hB1.mono hB.size)
    clear hb0 hb1 hB hB1 l30
    have hlt1 := b1.lt
    have hn0 : w1.heap.size ≠ w.heap.size := by omega
    have hn1 : w1.heap.size ≠ w.heap.size + 1 := by omega
    have s2 := (bx_zero w1 30).sto30 zero_len hlu
    have c2 := (bx_zero w1 30).row u
    have c0 := (b0.alloc (.cells zlit 30)).far (b := w1.heap.size) (Ne.symm hn0) u.arr
    have c1 := (b1.alloc (.cells zlit 30)).far (b := w1.heap.size) (Ne.symm hn1) u.arr
    have BC := brow (g := w1.heap.size) (hBw.alloc hBw.size (.cells zlit 30)) hBw.size u.arr
    clear b0 b1
    have l0 := c0.load30 hl
    have l2 := c2.load30 hlu
    by_cases her : er = 0
    · subst her
      have hlt := HK.out rfl
      have h8 : (who : Int) < 8 := by omega
      have cv := c2.cv hlu hlt
      have fv := c2.fr (8 + who)
      obtain ⟨v, hv⟩ : ∃ q, u.v who = q := ⟨_, rfl⟩
      rw [hv] at cv
      by_cases h0 : v = 0
      · have HR2 := Lib.hid (HR.out.trans (show _ = (u.setV who 2, 0) by simp [hv, h0]))
        have d2 := c2.setV hlu hlt 2
        have hl2 := hlu.setV who 2
        have d1 := c1.farc ⟨w1.heap.size, 8 + who, none⟩ (Ne.symm hn1) (.int .i64 2)
        have ld2 := d2.load30 hl2
        have sd1 := d1.sto30 zero_len hl2
        have BR := Lib.hid (d1.row (u.setV who 2))
        have BW := Lib.hid (brow (g := w.heap.size + 1) (BC.setCell (p := ⟨w1.heap.size, 8 + who, none⟩) hBw.size (.int .i64 2)) (by omega) (u.setV who 2).arr)
        subst h0
        clear c0 c1 c2 d1 d2 hv BC hBw HR
        go_wp2_with fail
        refine bodyPost_ret (res_cell Try.results11 (.inl rfl) _ _ (w.heap.size + 1) _ hl2 _ rfl rfl BR.out) rfl ⟨retT HR2.out, BW.out⟩
      · have h0b : (v == 0) = false := by simpa using h0
        by_cases h1 : v = 2
        · have HR2 := Lib.hid (HR.out.trans (show _ = (u, 0) by simp [hv, h1]))
          have sd1 := c1.sto30 zero_len hlu
          have BR := Lib.hid (c1.row u)
          have BW := Lib.hid (brow (g := w.heap.size + 1) BC (by omega) u.arr)
          subst h1
          clear c0 c1 c2 hv BC hBw HR
          go_wp2_with fail
          refine bodyPost_ret (res_cell Try.results11 (.inl rfl) _ _ (w.heap.size + 1) _ hlu _ rfl rfl BR.out) rfl ⟨retT HR2.out, BW.out⟩
        · have h1b : (v != 2) = true := by simpa using h1
          have HR2 := Lib.hid (HR.out.trans (show _ = (t, 8) by simp [hv, h0, h1]))
          have sd1 := c1.sto30 zero_len hl
          have BR := Lib.hid (c1.row t)
          have BW := Lib.hid (brow (g := w.heap.size + 1) BC (by omega) t.arr)
          clear c0 c1 c2 hv BC hBw HR
          go_wp2_with fail
          refine bodyPost_ret (res_cell Try.results11 (.inl rfl) _ _ (w.heap.size + 1) _ hl _ rfl rfl BR.out) rfl ⟨retT HR2.out, BW.out⟩
    · have herb : (er != 0) = true := by simpa using her
      have HR2 := Lib.hid (HR.out.trans (show _ = (t, er) by simp [her]))
      have sd1 := c1.sto30 zero_len hl
      have BR := Lib.hid (c1.row t)
      have BW := Lib.hid (brow (g := w.heap.size + 1) BC (by omega) t.arr)
      clear c0 c1 c2 BC hBw HR
      go_wp2_with fail
      refine bodyPost_ret (res_cell Try.results11 (.inl rfl) _ _ (w.heap.size + 1) _ hl _ rfl rfl BR.out) rfl ⟨retT HR2.out, BW.out⟩

end Go.Proofs.Ytaodgilfoihkfaa
