/-
  Air: Turn, in the air's words; exclusive or of two bytes.
-/
import Derived.Test.YtehgbpepaakanaaDoorH
namespace Go.Proofs.YtehgbpepaakanaaDoor
open Go.RowKit
set_option linter.unusedVariables false
set_option maxRecDepth 20000
set_option linter.unusedSimpArgs false

def xorB (a b : Int) : Int := bits .xor .u8 a b
theorem xorB_nat (a b : Nat) (ha : a < 256) (hb : b < 256) : xorB a b = ((a ^^^ b : Nat) : Int) := by
  have hx : a ^^^ b < 2 ^ 8 := Nat.xor_lt_two_pow (by omega) (by omega)
  have h1 : (BitVec.ofInt 8 (a : Int)).toNat = a := by
    rw [BitVec.ofInt_natCast, BitVec.toNat_ofNat]; exact Nat.mod_eq_of_lt (by omega)
  have h2 : (BitVec.ofInt 8 (b : Int)).toNat = b := by
    rw [BitVec.ofInt_natCast, BitVec.toNat_ofNat]; exact Nat.mod_eq_of_lt (by omega)
  show IntKind.u8.wrap ((BitVec.ofInt 8 (a : Int) ^^^ BitVec.ofInt 8 (b : Int)).toNat : Int) = _
  rw [BitVec.toNat_xor, h1, h2, IntKind.wrap_u8]
  omega
theorem xorB_twice (a b : Int) (ha : 0 ≤ a ∧ a ≤ 255) (hb : 0 ≤ b ∧ b ≤ 255) : xorB (xorB a b) b = a := by
  obtain ⟨a, rfl⟩ := Int.eq_ofNat_of_zero_le ha.1
  obtain ⟨b, rfl⟩ := Int.eq_ofNat_of_zero_le hb.1
  have hx : a ^^^ b < 2 ^ 8 := Nat.xor_lt_two_pow (by omega) (by omega)
  rw [xorB_nat _ _ (by omega) (by omega), xorB_nat _ _ (by omega) (by omega), Nat.xor_assoc, Nat.xor_self, Nat.xor_zero]
theorem xorB_in (a b : Int) (ha : 0 ≤ a ∧ a ≤ 255) (hb : 0 ≤ b ∧ b ≤ 255) : 0 ≤ xorB a b ∧ xorB a b ≤ 255 := by
  obtain ⟨a, rfl⟩ := Int.eq_ofNat_of_zero_le ha.1
  obtain ⟨b, rfl⟩ := Int.eq_ofNat_of_zero_le hb.1
  have hx : a ^^^ b < 2 ^ 8 := Nat.xor_lt_two_pow (by omega) (by omega)
  rw [xorB_nat _ _ (by omega) (by omega)]
  omega

theorem cellsOf_set (bs : List Int) (q : Nat) (z : Int) : cellsOf encB (bs.set q z) = (cellsOf encB bs).set q (.int .u8 z) := by
  induction bs generalizing q with
  | nil => simp [cellsOf]
  | cons a r ih =>
    cases q with
    | zero => simp [cellsOf, encB]
    | succ q => simp only [List.set_cons_succ]; simp only [cellsOf, List.flatMap_cons, encB, List.cons_append, List.nil_append, List.set_cons_succ] at ih ⊢; rw [ih]

theorem BS.write {w : World} {g d : Nat} {bs : List Int} (h : BS w (.slice (some ⟨g, 0, none⟩) bs.length d) bs) (q : Nat) (z : Int) : BS (w.setCell ⟨g, q, none⟩ (.int .u8 z)) (.slice (some ⟨g, 0, none⟩) bs.length d) (bs.set q z) := by
  have := (World.ownsRow.stored h q (.int .u8 z)).1
  rw [BS, List.length_set, cellsOf_set]
  exact this

/-- One letter's bytes are others, in their place. -/
theorem AirW.write {w w' : World} {A : Nat} {room : Int} {b : Nat → Nat} {v : Nat → Value} {L : Nat → List LX} {t i g : Nat} {lv : Lv} {bs bs' : List Int} (hA : AirW w A room b v L) (ht : t < 17) (hx : (L t)[i]? = some ⟨lv, bs⟩)
    (hg : (LX.mk lv bs).blk = some g) (hU : Upd (fun k => k = g) w w') (hS : BS w' (LX.mk lv bs).sv bs') : AirW w' A room b v (upd L t ((L t).set i ⟨lv, bs'⟩)) := by
  have hxm : (LX.mk lv bs) ∈ L t := List.mem_of_getElem? hx
  have hil : i < (L t).length := (List.getElem?_eq_some_iff.1 hx).1
  have gt : Typed w g 5 := hA.x_typed ht hxm hg
  have hold : ∀ j, j < 17 → ∀ x ∈ (upd L t ((L t).set i ⟨lv, bs'⟩)) j, ∃ y ∈ L j, y.blk = x.blk := by
    intro j hj x hx'
    by_cases e : j = t
    · subst e
      rw [upd_same] at hx'
      rcases List.mem_or_eq_of_mem_set hx' with h | rfl
      · exact ⟨x, h, rfl⟩
      · exact ⟨_, hxm, rfl⟩
    · rw [upd_other _ _ e] at hx'; exact ⟨x, hx', rfl⟩
  have hmap : ∀ {β : Type} (f : LX → β), f ⟨lv, bs'⟩ = f ⟨lv, bs⟩ → ((L t).set i ⟨lv, bs'⟩).map f = (L t).map f := by
    intro β f hf
    rw [List.map_set, hf]
    apply List.ext_getElem?
    intro n
    rw [List.getElem?_set]
    by_cases e : i = n
    · subst e
      rw [if_pos rfl, if_pos (by simpa using hil), List.getElem?_map, hx]
      rfl
    · rw [if_neg e]
  refine ⟨hU.heap hA.air (fun e => gt.ne ⟨_, hA.air⟩ (by decide) e.symm), fun j hj => ?_, fun j hj x hx' => ?_, hA.bd, hA.vd, fun j k hj hk hjk x hx' y hy => ?_, fun j hj => ?_, fun j hj => ?_⟩
  · have hr := (hA.ring j hj).upd hU (fun k hk e => hA.x_not_of hj ht hxm hg (e ▸ hk))
    by_cases e : j = t
    · subst e; rw [upd_same, hmap LX.lv rfl]; exact hr
    · rw [upd_other _ _ e]; exact hr
  · by_cases e : j = t
    · subst e
      rw [upd_same] at hx'
      obtain ⟨n, hn⟩ := List.mem_iff_getElem?.1 hx'
      rw [List.getElem?_set] at hn
      by_cases e : i = n
      · subst e
        rw [if_pos rfl, if_pos hil] at hn
        cases hn
        exact hS
      · rw [if_neg e] at hn
        have hym : x ∈ L j := List.mem_of_getElem? hn
        refine (hA.byt j hj x hym).upd hU (fun k hk ek => ?_)
        subst ek
        have hp := hA.xp j hj
        obtain ⟨hi', hie⟩ := List.getElem?_eq_some_iff.1 hx
        obtain ⟨hn', hne⟩ := List.getElem?_eq_some_iff.1 hn
        have hp' := List.pairwise_iff_getElem.1 hp
        rcases Nat.lt_or_gt_of_ne e with h | h
        · have := hp' i n hi' hn' h; rw [hie, hne] at this; exact this k hg hk
        · have := hp' n i hn' hi' h; rw [hie, hne] at this; exact this k hk hg
    · rw [upd_other _ _ e] at hx'
      exact (hA.byt j hj x hx').upd hU (fun k hk ek => hA.xd t j ht hj (fun h => e h.symm) _ hxm x hx' g hg (ek ▸ hk))
  · obtain ⟨x0, hx0, ex⟩ := hold j hj x hx'
    obtain ⟨y0, hy0, ey⟩ := hold k hk y hy
    intro g' h1 h2
    exact hA.xd j k hj hk hjk x0 hx0 y0 hy0 g' (ex.trans h1) (ey.trans h2)
  · by_cases e : j = t
    · subst e
      rw [upd_same]
      have h1 : ((L j).map LX.blk).Pairwise (fun a b => ∀ g, a = some g → b ≠ some g) := List.pairwise_map.2 (hA.xp j hj)
      rw [← hmap LX.blk rfl] at h1
      exact (List.pairwise_map (f := LX.blk) (R := fun a b => ∀ g, a = some g → b ≠ some g)).1 h1
    · rw [upd_other _ _ e]; exact hA.xp j hj
  · by_cases e : j = t
    · subst e; rw [upd_same, List.length_set]; exact hA.len j hj
    · rw [upd_other _ _ e]; exact hA.len j hj

/-- A letter that is turned. -/
def Lt.turn (x : Lt) (pl : Nat) (z : Int) : Lt := ⟨x.f, x.t, x.bs.set (pl % x.bs.length) (xorB (x.bs.getD (pl % x.bs.length) 0) z)⟩

theorem turn_air (P : Nat → Prop) (A : Nat) (room : Int) (st : Nat → List Lt) (t i : Nat) (x : Lt) (pl : Nat) (z : Int) (w : World) (h : AirAt w P A room st) (hr : 0 < room) (hr2 : room ≤ 1000) (ht : t < 17) (hx : (st t)[i]? = some x) (hm : x.bs ≠ []) (hm2 : x.bs.length ≤ 4000) (hpl : pl < 65536) :
    Calls Tryd.prog 11 #[.pointer (some ⟨A, 0, none⟩), .int .u8 t, .int .i64 i, .int .u16 pl, .int .u8 z] w fun e w' => e = .returned (.int .i64 0) ∧ ∃ P', AirAt w' P' A room (upd st t ((st t).set i (x.turn pl z))) ∧ Upd P w w' ∧ (∀ k, P' k → P k ∨ w.heap.size ≤ k) := by
  obtain ⟨b, v, L, hA, hP, hst⟩ := h
  rw [hst t ht] at hx
  obtain ⟨⟨⟨f, tt, a, m, d⟩, bs⟩, hy, rfl⟩ := some_lx hx
  have hym := List.mem_of_getElem? hy
  have hbs := hA.byt t ht _ hym
  simp only [LX.sv, LX.lt] at hbs hm hm2
  rcases hbs.2 with ⟨h0, h1⟩ | ⟨g, cap, cur, hv, hb, hcur, hnc, hcm, hsz, htake⟩
  · exact absurd (List.length_eq_zero_iff.1 h1) hm
  · simp only [Value.slice.injEq] at hv
    obtain ⟨rfl, rfl, rfl⟩ := hv
    have hpos : 0 < bs.length := List.length_pos_iff.2 hm
    have hq : pl % bs.length < bs.length := Nat.mod_lt _ hpos
    have hget : bs[pl % bs.length]? = some (bs.getD (pl % bs.length) 0) := by rw [List.getD_eq_getElem?_getD, List.getElem?_eq_getElem hq]; rfl
    have hc : cur[pl % bs.length]? = some (.int .u8 (bs.getD (pl % bs.length) 0)) := by
      have := cellsOf_at encB 1 encB_len bs _ 0 _ hget (by omega)
      rw [← htake, List.getElem?_take, if_pos (by omega)] at this
      simpa [encB] using this
    refine (turn_ok A room b v L t i f tt g bs.length d bs pl z _ _ cur w hA hr hr2 ht hy hcur hpos hm2 hpl rfl hc).mono ?_
    rintro e w' ⟨rfl, w1, hB, rfl⟩
    have hA1 := hA.keepB hB
    have hS1 : BS w1 (.slice (some ⟨g, 0, none⟩) bs.length d) bs := hA1.byt t ht _ hym
    have hU : Upd (fun k => k = g) w1 ((w1.setCell ⟨g, pl % bs.length, none⟩ (.int .u8 (xorB (bs.getD (pl % bs.length) 0) z))).drew) := ((Upd.refl (fun k => k = g) w1).setCell ⟨g, pl % bs.length, none⟩ _ (fun _ => rfl)).drew
    have hW := hA1.write ht hy (g := g) rfl hU (BS.write hS1 (pl % bs.length) (xorB (bs.getD (pl % bs.length) 0) z))
    have hPg : ∀ k, Blocks A b v (upd L t ((L t).set i ⟨⟨f, tt, some ⟨g, 0, none⟩, bs.length, d⟩, bs.set (pl % bs.length) (xorB (bs.getD (pl % bs.length) 0) z)⟩)) k → P k := by
      rintro k (rfl | ⟨j, hj, hk | ⟨y, hy', hk⟩⟩)
      · exact hP _ (.inl rfl)
      · exact hP _ (.inr ⟨j, hj, .inl hk⟩)
      · by_cases e : j = t
        · subst e
          rw [upd_same] at hy'
          rcases List.mem_or_eq_of_mem_set hy' with h | rfl
          · exact hP _ (.inr ⟨j, hj, .inr ⟨y, h, hk⟩⟩)
          · exact hP _ (.inr ⟨j, hj, .inr ⟨_, hym, hk⟩⟩)
        · rw [upd_other _ _ e] at hy'
          exact hP _ (.inr ⟨j, hj, .inr ⟨y, hy', hk⟩⟩)
    refine ⟨rfl, P, ⟨b, v, _, hW, hPg, fun j hj => ?_⟩, Upd.orfresh hB hU (fun k e => hP k (.inr ⟨t, ht, .inr ⟨_, hym, e ▸ rfl⟩⟩)), fun k h => .inl h⟩
    by_cases e : j = t
    · subst e
      rw [upd_same, upd_same, hst j hj, List.map_set]
      rfl
    · rw [upd_other _ _ e, upd_other _ _ e]; exact hst j hj

end Go.Proofs.YtehgbpepaakanaaDoor
