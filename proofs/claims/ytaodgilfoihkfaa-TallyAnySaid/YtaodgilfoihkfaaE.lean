/-
  The contracts of the reference's Put.
-/
import Derived.Test.YtaodgilfoihkfaaD
namespace Go.Proofs.Ytaodgilfoihkfaa
open Go.RowKit
set_option linter.unusedVariables false
set_option linter.unusedSimpArgs false

attribute [local go_sem ↓] ld22 ld23 ld25 ld30 st22 st23 st25 st30

set_option maxHeartbeats 3200000 in
theorem rput_is (t : Ta) (hl : t.Len) (who : Nat) (ep vote : Int) (w : World) :
    Calls Try.prog 12 #[TV t, .int .u8 who, .int .i64 ep, .int .i64 vote] w fun e w' => e = .returned (.tuple #[TV (t.put who ep vote).1, .int .i64 (t.put who ep vote).2]) ∧ Below w.heap.size w w' := by
  obtain ⟨hb0, hb1, hB⟩ := two w t 25
  have l30 := hb0.load25 hl
  by_cases hv : vote ≠ 1 ∧ vote ≠ 2
  · have s30 := hb1.sto25 zero_len hl
    have BR := Lib.hid (hb1.row t)
    have BW := Lib.hid (brow (g := w.heap.size + 1) hB (by omega) t.arr)
    have HR := Lib.hid (show t.put who ep vote = (t, 2) by unfold Ta.put; rw [if_pos hv])
    obtain ⟨v1, v2⟩ := hv
    have v1c : (vote != 1) = true := by simpa using v1
    have v2c : (vote != 2) = true := by simpa using v2
    clear hb0 hb1 hB
    go_enter Try.func12, Try.ntmps12
    go_wp2_with fail
    refine bodyPost_ret (res_cell Try.results12 (.inr rfl) _ _ (w.heap.size + 1) t hl _ rfl rfl BR.out) rfl ⟨retT HR.out, BW.out⟩
  have hR : t.put who ep vote = if (t.hear who ep).2 ≠ 0 then (t, (t.hear who ep).2)
      else if (t.hear who ep).1.v who = 0 then ((t.hear who ep).1.setV who vote, 0)
      else if (t.hear who ep).1.v who ≠ vote then (t, 8)
      else ((t.hear who ep).1, 0) := by rw [Ta.put, if_neg hv]
  have HR := Lib.hid hR
  have HV : (vote = 1 ∧ (vote != 1) = false) ∨ (vote = 2 ∧ (vote != 2) = false ∧ (vote != 1) = true) := by
    by_cases h1 : vote = 1
    · subst h1; simp
    · by_cases h2 : vote = 2
      · subst h2; simp
      · exact absurd ⟨h1, h2⟩ hv
  clear hR hv
  have hvt : vote ≠ 0 := by omega
  have hk := fun h => hear_ok (t := t) (who := who) (ep := ep) h
  have HK := Lib.hid hk
  have hlu := hl.hear who ep
  clear hk
  have main : ∀ (W : World), Calls Try.prog 14 #[TV t, .int .u8 who, .int .i64 ep] W fun e w' => e = .returned (.tuple #[TV (t.hear who ep).1, .int .i64 (t.hear who ep).2]) ∧ Below W.heap.size W w' := fun W => rhear_is t hl who ep W
  have MN := Lib.hid main
  clear main
  generalize t.hear who ep = R at *
  obtain ⟨u, er⟩ := R
  simp only at hlu
  go_enter Try.func12, Try.ntmps12
  rcases HV with ⟨rfl, v1⟩ | ⟨rfl, v2, v1⟩
  · go_wp2_with fail
    refine (MN.out _).mono ?_
    rintro e w1 ⟨rfl, hB1⟩
    have b0 := hb0.below hB1
    have b1 := hb1.below hB1
    have hBw : Below w.heap.size w w1 := hB.trans (hB1.mono hB.size)
    clear hb0 hb1 hB hB1 l30
    have hlt1 := b1.lt
    have hn0 : w1.heap.size ≠ w.heap.size := by omega
    have hn1 : w1.heap.size ≠ w.heap.size + 1 := by omega
    have s2 := (bx_zero w1 25).sto25 zero_len hlu
    have c2 := (bx_zero w1 25).row u
    have c0 := (b0.alloc (.cells zlit 25)).far (b := w1.heap.size) (Ne.symm hn0) u.arr
    have c1 := (b1.alloc (.cells zlit 25)).far (b := w1.heap.size) (Ne.symm hn1) u.arr
    have BC := brow (g := w1.heap.size) (hBw.alloc hBw.size (.cells zlit 25)) hBw.size u.arr
    clear b0 b1
    have l0 := c0.load25 hl
    have l2 := c2.load25 hlu
    by_cases her : er = 0
    · subst her
      have hlt := HK.out rfl
      have h8 : (who : Int) < 8 := by omega
      have cv := c2.cv hlu hlt
      have fv := c2.fr (8 + who)
      obtain ⟨v, hv⟩ : ∃ q, u.v who = q := ⟨_, rfl⟩
      rw [hv] at cv
      by_cases hz : v = 0 ∨ v = 1
      · have hR2 : t.put who ep 1 = (u.setV who 1, 0) := by
          rw [HR.out]
          rcases hz with hz | hz
          · simp [hv, hz]
          · simp [hv, hz, Ta.setV_same hlu hlt (hv.trans hz)]
        have HR2 := Lib.hid hR2
        have HV2 := Lib.hid hv
        clear hR2 HR hv
        have le := c2.load23v hlu
        have hsz : ((w1.alloc (.cells zlit 25)).setRow w1.heap.size u.arr).heap.size = w1.heap.size + 1 := by simp
        have C0 := c0
        generalize hW : (w1.alloc (.cells zlit 25)).setRow w1.heap.size u.arr = W at *
        have lt1 := c1.lt
        have lt2 := c2.lt
        have i0 := bi_zero W 23
        have si := i0.sto (by rfl) hlu.v
        have i1 := i0.row u.V
        have ci := i1.cell (k := who) (by rw [hlu.v]; exact hlt)
        have fi := i1.fr who
        have i2 := i1.set who 1
        have li := i2.ld (by rw [List.length_set]; exact hlu.v)
        have n1 : w.heap.size + 1 ≠ W.heap.size := by omega
        have n2 : w1.heap.size ≠ W.heap.size := by omega
        have d1 := ((c1.alloc (.cells zints 23)).far (b := W.heap.size) n1 (Ta.is u.V).toArray).farc ⟨W.heap.size, who, none⟩ n1 (.int .i64 1)
        have d2 := ((c2.alloc (.cells zints 23)).far (b := W.heap.size) n2 (Ta.is u.V).toArray).farc ⟨W.heap.size, who, none⟩ n2 (.int .i64 1)
        have hl2 := hlu.setV who 1
        have se := d2.stoV' hlu who 1
        have e2 := d2.row (u.setV who 1)
        have e1 := d1.far (b := w1.heap.size) (Ne.symm hn1) (u.setV who 1).arr
        have l25' := e2.load25 hl2
        have s25' := e1.sto25 zero_len hl2
        have BR := Lib.hid (e1.row (u.setV who 1))
        have BW := Lib.hid (brow (g := w.heap.size + 1) (brow (g := w1.heap.size) ((brow (g := W.heap.size) (BC.alloc BC.size (.cells zints 23)) BC.size (Ta.is u.V).toArray).setCell (p := ⟨W.heap.size, who, none⟩) BC.size (.int .i64 1)) hBw.size (u.setV who 1).arr) (by omega) (u.setV who 1).arr)
        clear c0 c1 c2 C0 i0 i1 i2 d1 d2 e1 e2 BC hBw
        simp only [hsz] at si ci fi li se l25' s25' BR BW
        subst hW
        clear hsz lt1 lt2 n1 n2
        rcases hz with rfl | rfl
        · go_wp2_with fail
          refine bodyPost_ret (res_cell Try.results12 (.inr rfl) _ _ (w.heap.size + 1) _ hl2 _ rfl rfl BR.out) rfl ⟨retT HR2.out, BW.out⟩
        · go_wp2_with fail
          refine bodyPost_ret (res_cell Try.results12 (.inr rfl) _ _ (w.heap.size + 1) _ hl2 _ rfl rfl BR.out) rfl ⟨retT HR2.out, BW.out⟩
      · have h0 : v ≠ 0 := fun h => hz (.inl h)
        have h1 : v ≠ 1 := fun h => hz (.inr h)
        have h0b : (v != 0) = true := by simpa using h0
        have h1b : (v != 1) = true := by simpa using h1
        have HR2 := Lib.hid (HR.out.trans (show _ = (t, 8) by simp [hv, h0, h1]))
        have sd1 := c1.sto25 zero_len hl
        have BR := Lib.hid (c1.row t)
        have BW := Lib.hid (brow (g := w.heap.size + 1) BC (by omega) t.arr)
        clear c0 c1 c2 hv BC hBw HR hz
        go_wp2_with fail
        refine bodyPost_ret (res_cell Try.results12 (.inr rfl) _ _ (w.heap.size + 1) _ hl _ rfl rfl BR.out) rfl ⟨retT HR2.out, BW.out⟩
    · have herb : (er != 0) = true := by simpa using her
      have HR2 := Lib.hid (HR.out.trans (show _ = (t, er) by simp [her]))
      have sd1 := c1.sto25 zero_len hl
      have BR := Lib.hid (c1.row t)
      have BW := Lib.hid (brow (g := w.heap.size + 1) BC (by omega) t.arr)
      clear c0 c1 c2 BC hBw HR
      go_wp2_with fail
      refine bodyPost_ret (res_cell Try.results12 (.inr rfl) _ _ (w.heap.size + 1) _ hl _ rfl rfl BR.out) rfl ⟨retT HR2.out, BW.out⟩
  · go_wp2_with fail
    refine (MN.out _).mono ?_
    rintro e w1 ⟨rfl, hB1⟩
    have b0 := hb0.below hB1
    have b1 := hb1.below hB1
    have hBw : Below w.heap.size w w1 := hB.trans (hB1.mono hB.size)
    clear hb0 hb1 hB hB1 l30
    have hlt1 := b1.lt
    have hn0 : w1.heap.size ≠ w.heap.size := by omega
    have hn1 : w1.heap.size ≠ w.heap.size + 1 := by omega
    have s2 := (bx_zero w1 25).sto25 zero_len hlu
    have c2 := (bx_zero w1 25).row u
    have c0 := (b0.alloc (.cells zlit 25)).far (b := w1.heap.size) (Ne.symm hn0) u.arr
    have c1 := (b1.alloc (.cells zlit 25)).far (b := w1.heap.size) (Ne.symm hn1) u.arr
    have BC := brow (g := w1.heap.size) (hBw.alloc hBw.size (.cells zlit 25)) hBw.size u.arr
    clear b0 b1
    have l0 := c0.load25 hl
    have l2 := c2.load25 hlu
    by_cases her : er = 0
    · subst her
      have hlt := HK.out rfl
      have h8 : (who : Int) < 8 := by omega
      have cv := c2.cv hlu hlt
      have fv := c2.fr (8 + who)
      obtain ⟨v, hv⟩ : ∃ q, u.v who = q := ⟨_, rfl⟩
      rw [hv] at cv
      by_cases hz : v = 0 ∨ v = 2
      · have hR2 : t.put who ep 2 = (u.setV who 2, 0) := by
          rw [HR.out]
          rcases hz with hz | hz
          · simp [hv, hz]
          · simp [hv, hz, Ta.setV_same hlu hlt (hv.trans hz)]
        have HR2 := Lib.hid hR2
        have HV2 := Lib.hid hv
        clear hR2 HR hv
        have le := c2.load23v hlu
        have hsz : ((w1.alloc (.cells zlit 25)).setRow w1.heap.size u.arr).heap.size = w1.heap.size + 1 := by simp
        have C0 := c0
        generalize hW : (w1.alloc (.cells zlit 25)).setRow w1.heap.size u.arr = W at *
        have lt1 := c1.lt
        have lt2 := c2.lt
        have i0 := bi_zero W 23
        have si := i0.sto (by rfl) hlu.v
        have i1 := i0.row u.V
        have ci := i1.cell (k := who) (by rw [hlu.v]; exact hlt)
        have fi := i1.fr who
        have i2 := i1.set who 2
        have li := i2.ld (by rw [List.length_set]; exact hlu.v)
        have n1 : w.heap.size + 1 ≠ W.heap.size := by omega
        have n2 : w1.heap.size ≠ W.heap.size := by omega
        have d1 := ((c1.alloc (.cells zints 23)).far (b := W.heap.size) n1 (Ta.is u.V).toArray).farc ⟨W.heap.size, who, none⟩ n1 (.int .i64 2)
        have d2 := ((c2.alloc (.cells zints 23)).far (b := W.heap.size) n2 (Ta.is u.V).toArray).farc ⟨W.heap.size, who, none⟩ n2 (.int .i64 2)
        have hl2 := hlu.setV who 2
        have se := d2.stoV' hlu who 2
        have e2 := d2.row (u.setV who 2)
        have e1 := d1.far (b := w1.heap.size) (Ne.symm hn1) (u.setV who 2).arr
        have l25' := e2.load25 hl2
        have s25' := e1.sto25 zero_len hl2
        have BR := Lib.hid (e1.row (u.setV who 2))
        have BW := Lib.hid (brow (g := w.heap.size + 1) (brow (g := w1.heap.size) ((brow (g := W.heap.size) (BC.alloc BC.size (.cells zints 23)) BC.size (Ta.is u.V).toArray).setCell (p := ⟨W.heap.size, who, none⟩) BC.size (.int .i64 2)) hBw.size (u.setV who 2).arr) (by omega) (u.setV who 2).arr)
        clear c0 c1 c2 C0 i0 i1 i2 d1 d2 e1 e2 BC hBw
        simp only [hsz] at si ci fi li se l25' s25' BR BW
        subst hW
        clear hsz lt1 lt2 n1 n2
        rcases hz with rfl | rfl
        · go_wp2_with fail
          refine bodyPost_ret (res_cell Try.results12 (.inr rfl) _ _ (w.heap.size + 1) _ hl2 _ rfl rfl BR.out) rfl ⟨retT HR2.out, BW.out⟩
        · go_wp2_with fail
          refine bodyPost_ret (res_cell Try.results12 (.inr rfl) _ _ (w.heap.size + 1) _ hl2 _ rfl rfl BR.out) rfl ⟨retT HR2.out, BW.out⟩
      · have h0 : v ≠ 0 := fun h => hz (.inl h)
        have h1 : v ≠ 2 := fun h => hz (.inr h)
        have h0b : (v != 0) = true := by simpa using h0
        have h1b : (v != 2) = true := by simpa using h1
        have HR2 := Lib.hid (HR.out.trans (show _ = (t, 8) by simp [hv, h0, h1]))
        have sd1 := c1.sto25 zero_len hl
        have BR := Lib.hid (c1.row t)
        have BW := Lib.hid (brow (g := w.heap.size + 1) BC (by omega) t.arr)
        clear c0 c1 c2 hv BC hBw HR hz
        go_wp2_with fail
        refine bodyPost_ret (res_cell Try.results12 (.inr rfl) _ _ (w.heap.size + 1) _ hl _ rfl rfl BR.out) rfl ⟨retT HR2.out, BW.out⟩
    · have herb : (er != 0) = true := by simpa using her
      have HR2 := Lib.hid (HR.out.trans (show _ = (t, er) by simp [her]))
      have sd1 := c1.sto25 zero_len hl
      have BR := Lib.hid (c1.row t)
      have BW := Lib.hid (brow (g := w.heap.size + 1) BC (by omega) t.arr)
      clear c0 c1 c2 BC hBw HR
      go_wp2_with fail
      refine bodyPost_ret (res_cell Try.results12 (.inr rfl) _ _ (w.heap.size + 1) _ hl _ rfl rfl BR.out) rfl ⟨retT HR2.out, BW.out⟩

end Go.Proofs.Ytaodgilfoihkfaa
