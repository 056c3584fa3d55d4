/-
  TallyAny: the pure law, and the contract of its closure.
-/
import Derived.Test.YtaodgilfoihkfaaOne
import Derived.StillTailTactics
namespace Go.Proofs.Ytaodgilfoihkfaa
open Go.RowKit
set_option linter.unusedVariables false
set_option linter.unusedSimpArgs false

structure AnyI (t0 t : Ta) (vt : Nat → Int) (d : Nat → Prop) : Prop where
  len : t.Len
  right : t.right = true
  w : t.W = t0.W
  yes : ∀ q, q < 8 → d q → t.v q = vt q ∧ t.e q = 5
  no : ∀ q, q < 8 → ¬ d q → t.v q = 0 ∧ t.e q = 0

theorem any_start {t : Ta} (h : Fresh t) (vt : Nat → Int) : AnyI t t vt (fun _ => False) :=
  ⟨h.len, h.right, rfl, fun _ _ h => h.elim, fun q _ _ => ⟨h.v q, h.e q⟩⟩

theorem AnyI.iff {t0 t : Ta} {vt : Nat → Int} {d d' : Nat → Prop} (h : AnyI t0 t vt d) (hd : ∀ q, q < 8 → (d q ↔ d' q)) : AnyI t0 t vt d' :=
  ⟨h.len, h.right, h.w, fun q hq hd' => h.yes q hq ((hd q hq).2 hd'), fun q hq hd' => h.no q hq fun k => hd' ((hd q hq).1 k)⟩

theorem any_put {t0 t : Ta} {vt : Nat → Int} {d : Nat → Prop} (h : AnyI t0 t vt d) {n : Nat} (hn : n < 8) (hw : t0.w n = true) (hv : vt n = 1 ∨ vt n = 2) :
    ∃ u, t.put n 5 (vt n) = (u, 0) ∧ AnyI t0 u vt (fun q => d q ∨ q = n) := by
  have hw1 : t.w n = true := by
    rw [Ta.w, h.w]
    exact hw
  have hve : (t.v n = 0 ∨ t.v n = vt n) ∧ t.e n ≤ 5 := by
    by_cases hd : d n
    · have := h.yes n hn hd
      exact ⟨.inr this.1, by omega⟩
    · have := h.no n hn hd
      exact ⟨.inl this.1, by omega⟩
  have hl1 := h.len.setE n 5
  have r1 := setE_right h.len h.right hn hw1 (x := 5) (by decide) (by decide)
  have ee : (t.setE n 5).e n = 5 := by rw [Ta.e_setE h.len hn, if_pos rfl]
  have r2 := setV_right hl1 r1 hn (show (t.setE n 5).w n = true from hw1) (by rw [ee]; decide) (x := vt n) (by omega) (by omega)
  have vv : ∀ q, ((t.setE n 5).setV n (vt n)).v q = if q = n then vt n else t.v q := fun q => by
    rw [Ta.v_setV hl1 hn]
    rfl
  have ve : ∀ q, ((t.setE n 5).setV n (vt n)).e q = if q = n then 5 else t.e q := fun q => by
    show (t.setE n 5).e q = _
    rw [Ta.e_setE h.len hn]
  refine ⟨_, put_good h.len h.right hn hw1 (by decide) (by decide) hve.2 hv hve.1, hl1.setV _ _, r2, h.w, fun q hq hd => ?_, fun q hq hd => ?_⟩
  · rw [vv, ve]
    by_cases hqn : q = n
    · rw [if_pos hqn, if_pos hqn, hqn]
      exact ⟨rfl, rfl⟩
    · rw [if_neg hqn, if_neg hqn]
      exact h.yes q hq (hd.resolve_right hqn)
  · rw [vv, ve, if_neg (fun hqn => hd (.inr hqn)), if_neg (fun hqn => hd (.inr hqn))]
    exact h.no q hq fun k => hd (.inl k)

theorem ints_ext {l l' : List Int} (h : l.length = 8) (h' : l'.length = 8) (hq : ∀ q, q < 8 → l.getD q 0 = l'.getD q 0) : l = l' := by
  refine List.ext_getElem? fun i => ?_
  by_cases hi : i < 8
  · have := hq i hi
    rw [List.getElem?_eq_getElem (by omega), List.getElem?_eq_getElem (by omega)]
    simp [List.getD, h, h', hi] at this
    rw [this]
  · rw [List.getElem?_eq_none (by omega), List.getElem?_eq_none (by omega)]

theorem any_eq {t0 a b : Ta} {vt : Nat → Int} {d : Nat → Prop} (ha : AnyI t0 a vt d) (hb : AnyI t0 b vt d) : a = b := by
  have hv : ∀ q, q < 8 → a.v q = b.v q ∧ a.e q = b.e q := fun q hq => by
    by_cases hd : d q
    · have h1 := ha.yes q hq hd
      have h2 := hb.yes q hq hd
      exact ⟨h1.1.trans h2.1.symm, h1.2.trans h2.2.symm⟩
    · have h1 := ha.no q hq hd
      have h2 := hb.no q hq hd
      exact ⟨h1.1.trans h2.1.symm, h1.2.trans h2.2.symm⟩
  have e1 := ints_ext ha.len.v hb.len.v (fun q hq => (hv q hq).1)
  have e2 := ints_ext ha.len.e hb.len.e (fun q hq => (hv q hq).2)
  have e3 := ha.w.trans hb.w.symm
  obtain ⟨W, V, E⟩ := a
  obtain ⟨W', V', E'⟩ := b
  simp only at e1 e2 e3
  rw [e1, e2, e3]

def vote (vb : Nat → Bool) (q : Nat) : Int := if vb q then 1 else 2
theorem vote_or (vb : Nat → Bool) (q : Nat) : vote vb q = 1 ∨ vote vb q = 2 := by
  unfold vote
  split
  · exact .inl rfl
  · exact .inr rfl

theorem any_out {t0 t : Ta} {zs : List Int} {vb : Nat → Bool} (S : Seats t0 zs) (h : AnyI t0 t (vote vb) (fun q => (q : Int) ∈ zs)) : t.outcome = if zs.all (fun z => vb z.toNat) then 1 else 2 := by
  have wq : ∀ q, t.w q = t0.w q := fun q => by rw [Ta.w, Ta.w, h.w]
  by_cases hall : zs.all (fun z => vb z.toNat) = true
  · rw [if_pos hall]
    rw [List.all_eq_true] at hall
    have hv : ∀ q, q < 8 → t.v q = 0 ∨ t.v q = 1 := fun q hq => by
      by_cases hd : (q : Int) ∈ zs
      · right
        have := hall _ hd
        rw [(h.yes q hq hd).1, vote]
        simp at this
        rw [if_pos this]
      · exact .inl (h.no q hq hd).1
    rw [outcome_else h.right (fun q hq he => by have := hv q hq; omega), if_neg]
    rw [Ta.openB, List.any_eq_true]
    rintro ⟨q, hq, hb⟩
    simp at hq hb
    rw [wq] at hb
    have hd := S.mem q hq hb.1
    have := (h.yes q hq hd).1
    rcases vote_or vb q with hv | hv <;> omega
  · rw [if_neg hall]
    have : ∃ z ∈ zs, vb z.toNat = false := by
      simpa [List.all_eq_true] using hall
    obtain ⟨z, hz, hzb⟩ := this
    have ⟨a, b⟩ := S.lo z hz
    refine outcome_two h.right (k := z.toNat) (by omega) ?_
    rw [(h.yes z.toNat (by omega) (by rw [Int.toNat_of_nonneg a]; exact hz)).1, vote, hzb]
    rfl

theorem seats_len {zs : List Int} {t : Ta} (h : Ta.zero.adds zs = some t) : zs.length ≤ 8 := by
  have hc := adds_count zs zero_len h
  have hl := Ta.Len.adds zs zero_len h
  have := List.count_le_length (a := true) (l := t.W)
  rw [hl.w] at this
  rw [show Ta.zero.W.count true = 0 from rfl] at hc
  omega

/-- What the second loop has met. -/
def met (ys xs : List Int) (k : Nat) (q : Nat) : Prop := ∃ (j : Nat) (n : Int), j < k ∧ xs[j]? = some n ∧ ys[n.toNat % ys.length]? = some (q : Int)
theorem met_all {ys os : List Int} (h8 : ys.length ≤ 8) (q : Nat) : met ys (os ++ [0, 1, 2, 3, 4, 5, 6, 7]) (os.length + 8) q ↔ (q : Int) ∈ ys := by
  constructor
  · rintro ⟨_, _, _, _, h⟩
    exact List.mem_of_getElem? h
  · intro h
    obtain ⟨i, hi⟩ := List.mem_iff_getElem?.1 h
    have hil := (List.getElem?_eq_some_iff.1 hi).1
    refine ⟨os.length + i, (i : Int), by omega, ?_, ?_⟩
    · rw [List.getElem?_append_right (by omega), Nat.add_sub_cancel_left]
      have : i < 8 := by omega
      match i, this with
      | 0, _ => rfl
      | 1, _ => rfl
      | 2, _ => rfl
      | 3, _ => rfl
      | 4, _ => rfl
      | 5, _ => rfl
      | 6, _ => rfl
      | 7, _ => rfl
    · rw [Int.toNat_natCast, Nat.mod_eq_of_lt hil]
      exact hi
theorem met_next {ys xs : List Int} {k m : Nat} {n : Int} (hn : xs[k]? = some n) (hm : ys[n.toNat % ys.length]? = some (m : Int)) (q : Nat) : (met ys xs k q ∨ q = m) ↔ met ys xs (k + 1) q := by
  constructor
  · rintro (⟨j, x, hj, hx, hy⟩ | rfl)
    · exact ⟨j, x, by omega, hx, hy⟩
    · exact ⟨k, n, by omega, hn, hm⟩
  · rintro ⟨j, x, hj, hx, hy⟩
    by_cases hjk : j = k
    · subst hjk
      rw [hn] at hx
      injection hx with hx
      subst hx
      rw [hm] at hy
      injection hy with hy
      right
      omega
    · exact .inl ⟨j, x, by omega, hx, hy⟩
theorem take_next {ys : List Int} {k m : Nat} (hn : ys[k]? = some (m : Int)) (q : Nat) : ((q : Int) ∈ ys.take k ∨ q = m) ↔ (q : Int) ∈ ys.take (k + 1) := by
  rw [List.take_add_one, hn, List.mem_append]
  simp
  constructor
  · rintro (h | h)
    · exact .inl h
    · right; omega
  · rintro (h | h)
    · exact .inl h
    · right; omega

set_option maxHeartbeats 1600000 in
theorem vote_is (B : Nat) (vb : List Bool) (n : Nat) (hn : n < 8) (w : World) (h : w.cell? ⟨B, n, none⟩ = some (.bool (vb.getD n false))) :
    Calls Try.prog 22 #[.int .u8 (n : Int), .pointer (some ⟨B, 0, none⟩)] w fun e w' => e = .returned (.int .i64 (vote (fun q => vb.getD q false) n)) ∧ w' = w := by
  have hm : (n : Int) % 8 = n := by omega
  have h8 : (n : Int) < 8 := by omega
  obtain ⟨b, hb⟩ : ∃ b, vb.getD n false = b := ⟨_, rfl⟩
  rw [hb] at h
  cases b
  · have hv : vote (fun q => vb.getD q false) n = 2 := by unfold vote; rw [if_neg]; simp only [hb]; decide
    rw [hv]
    clear hb hv
    go_enter Try.func22, Try.ntmps22
    go_wp2
    go_ret
    exact ⟨rfl, rfl⟩
  · have hv : vote (fun q => vb.getD q false) n = 1 := by unfold vote; rw [if_pos]; exact hb
    rw [hv]
    clear hb hv
    go_enter Try.func22, Try.ntmps22
    go_wp2
    go_ret
    exact ⟨rfl, rfl⟩

end Go.Proofs.Ytaodgilfoihkfaa
