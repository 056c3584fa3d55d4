/-
  Air: Take, Again, Turn.
-/
import Derived.Test.YtehgbpepaakanaaDoorF
import Derived.Deep.RegionHeld3
namespace Go.Proofs.YtehgbpepaakanaaDoor
open Go.RowKit
set_option linter.unusedVariables false
set_option maxRecDepth 20000
set_option linter.unusedSimpArgs false

/-- look answers an error. -/
def LookErr (p : Option Addr) (t i c : Int) (w : World) : Prop := ∃ q : Option Addr, Calls Tryd.prog 34 #[.pointer p, .int .u8 t, .int .i64 i] w fun e w' => e = .returned (.tuple #[.pointer q, .agg #[.int .u8 0, .int .u8 0, .slice none 0 0], .int .i64 c]) ∧ Below w.heap.size w w'

set_option maxHeartbeats 1000000 in
theorem turn_err (p : Option Addr) (t i c pl by' : Int) (w : World) (hc : c ≠ 0) (h : LookErr p t i c w) :
    Calls Tryd.prog 11 #[.pointer p, .int .u8 t, .int .i64 i, .int .u16 pl, .int .u8 by'] w fun e w' => e = .returned (.int .i64 c) ∧ Below w.heap.size w w' := by
  obtain ⟨q, h⟩ := h
  have H := Lib.hid h
  clear h
  go_enter Tryd.func11, Tryd.ntmps11
  go_wp2_with fail
  refine H.out.mono ?_
  rintro e w2 ⟨rfl, hB⟩
  have hn := heap_alloc_new w2 (.cells #[.int .u8 0, .int .u8 0, .slice none 0 0] 37)
  go_wp2_with fail
  go_ret
  exact ⟨rfl, hB.alloc hB.size _⟩

set_option maxHeartbeats 1000000 in
theorem again_err (p : Option Addr) (t i c : Int) (w : World) (hc : c ≠ 0) (h : LookErr p t i c w) :
    Calls Tryd.prog 10 #[.pointer p, .int .u8 t, .int .i64 i] w fun e w' => e = .returned (.int .i64 c) ∧ Below w.heap.size w w' := by
  obtain ⟨q, h⟩ := h
  have H := Lib.hid h
  clear h
  go_enter Tryd.func10, Tryd.ntmps10
  go_wp2_with fail
  refine H.out.mono ?_
  rintro e w2 ⟨rfl, hB⟩
  go_wp2_with fail
  go_ret
  exact ⟨rfl, hB.alloc hB.size _⟩

set_option maxHeartbeats 1000000 in
theorem take_err (p : Option Addr) (t i c : Int) (w : World) (hc : c ≠ 0) (h : ∀ w1, Below w.heap.size w w1 → LookErr p t i c w1) :
    Calls Tryd.prog 12 #[.pointer p, .int .u8 t, .int .i64 i] w fun e w' => e = .returned (.tuple #[.agg #[.int .u8 0, .int .u8 0, .slice none 0 0], .int .i64 c]) ∧ Below w.heap.size w w' := by
  obtain ⟨w1, hw1, hb, hB, hz⟩ := zero_box w
  obtain ⟨q, h⟩ := h w1 hB
  have H := Lib.hid h
  have HB := Lib.hid hb
  have HW := Lib.hid hw1
  have hlt1 := lt_of_heap hb
  clear h hb hw1
  go_enter Tryd.func12, Tryd.ntmps12
  go_wp2_with fail
  rw [HW.out]
  refine H.out.mono ?_
  rintro e w2 ⟨rfl, hB2⟩
  have hb2 := (hB2.block _ hlt1).trans HB.out
  have hlt2 := lt_of_heap hb2
  obtain ⟨w3, hw3⟩ : ∃ w3, w2.alloc (.cells #[.int .u8 0, .int .u8 0, .slice none 0 0] 37) = w3 := ⟨_, rfl⟩
  have hb3 : w3.heap[w.heap.size]? = some (.cells #[.int .u8 0, .int .u8 0, .slice none 0 0] 37 (0, 0)) := by rw [← hw3]; exact blk_alloc hb2 _
  have hB3 : Below w.heap.size w w3 := by rw [← hw3]; exact (hB.trans (hB2.mono hB.size)).alloc (Nat.le_of_lt hlt2) _
  have y0 := blk_cell hb3 0
  have y1 := blk_cell hb3 1
  have y2 := blk_cell hb3 2
  have g0 := blk_frozen hb3 0
  have g1 := blk_frozen hb3 1
  have g2 := blk_frozen hb3 2
  simp at y0 y1 y2
  have HB3 := Lib.hid hb3
  have HW3 := Lib.hid hw3
  clear hb3 hb2 hw3
  go_upto_region 2 with fail
  rw [HW3.out]
  go_wp2_with fail
  have s := blk_set (blk_set (blk_set HB3.out 0 (.int .u8 0)) 1 (.int .u8 0)) 2 (.slice none 0 0)
  simp at s
  have e0 := blk_cell s 0
  have e1 := blk_cell s 1
  have e2 := blk_cell s 2
  simp at e0 e1 e2
  exact bodyPost_ret (v := .tuple #[.agg #[.int .u8 0, .int .u8 0, .slice none 0 0], .int .i64 c]) (by simp [results, Tryd.results12, go_sem, e0, e1, e2]) rfl ⟨rfl, ((hB3.setCell (p := ⟨w.heap.size, 0, none⟩) (Nat.le_refl _) _).setCell (p := ⟨w.heap.size, 1, none⟩) (Nat.le_refl _) _).setCell (p := ⟨w.heap.size, 2, none⟩) (Nat.le_refl _) _⟩

theorem lookErr_bad (p : Option Addr) (t i : Int) (w : World) (h : ABad w p) : LookErr p t i 1 w := ⟨none, look_bad p t i w h⟩
theorem lookErr_arg (P : Nat → Prop) (A : Nat) (room : Int) (st : Nat → List Lt) (t : Nat) (i : Int) (w : World) (h : AirAt w P A room st) (ht : 17 ≤ t) (ht2 : t ≤ 255) : LookErr (some ⟨A, 0, none⟩) t i 2 w := by
  obtain ⟨b, v, L, hA, hP, hst⟩ := h
  exact ⟨none, look_arg A (b 0) t i w (hA.c0 0 (by decide)) ht ht2⟩
theorem AirW.keepB {w w' : World} {A : Nat} {room : Int} {b : Nat → Nat} {v : Nat → Value} {L : Nat → List LX} (h : AirW w A room b v L) (hb : Below w.heap.size w w') : AirW w' A room b v L := h.keep (Upd.of_below hb (fun _ => False)) (fun _ _ h => h)
theorem lookErr_none (P : Nat → Prop) (A : Nat) (room : Int) (st : Nat → List Lt) (t : Nat) (i : Int) (w : World) (h : AirAt w P A room st) (hr : 0 < room) (hr2 : room ≤ 1000) (ht : t < 17) (hi : i < 0 ∨ ((st t).length : Int) ≤ i) : LookErr (some ⟨A, 0, none⟩) t i 7 w := by
  obtain ⟨b, v, L, hA, hP, hst⟩ := h
  have hl : ((L t).map LX.lv).length = (st t).length := by rw [hst t ht]; simp
  have hl2 := hA.len t ht
  exact ⟨_, look_of A (b 0) (b t) t (v t) room ((L t).map LX.lv) i 0 0 none 0 0 7 w (hA.c0 0 (by decide)) (hA.c0 t ht) ht (fun w1 hB => rAt_out _ _ _ _ _ _ ((hA.keepB hB).ring t ht) hr (by rw [hl]; exact hi) (by simp; omega))⟩
theorem look_ok (A : Nat) (room : Int) (b : Nat → Nat) (v : Nat → Value) (L : Nat → List LX) (t i : Nat) (f tt : Int) (a : Option Addr) (m d : Nat) (bs : List Int) (w : World) (hA : AirW w A room b v L) (hr : 0 < room) (hr2 : room ≤ 1000) (ht : t < 17) (hx : (L t)[i]? = some ⟨⟨f, tt, a, m, d⟩, bs⟩) :
    Calls Tryd.prog 34 #[.pointer (some ⟨A, 0, none⟩), .int .u8 t, .int .i64 i] w fun e w' => e = .returned (.tuple #[.pointer (some ⟨b t, 0, none⟩), .agg #[.int .u8 f, .int .u8 tt, .slice a m d], .int .i64 0]) ∧ Below w.heap.size w w' := by
  have hl2 := hA.len t ht
  exact look_of A (b 0) (b t) t (v t) room ((L t).map LX.lv) i f tt a m d 0 w (hA.c0 0 (by decide)) (hA.c0 t ht) ht (fun w1 hB => rAt_in _ _ _ _ _ f tt a m d _ ((hA.keepB hB).ring t ht) hr (by rw [List.getElem?_map, hx]; rfl) (by simp; omega))

theorem pairwise_erase {α : Type} (R : α → α → Prop) (hs : ∀ x y, R x y → R y x) {l : List α} (h : l.Pairwise R) : ∀ {i : Nat} {x : α}, l[i]? = some x → ∀ y ∈ l.eraseIdx i, R x y := by
  induction l with
  | nil => intro i x hx; simp at hx
  | cons a l ih =>
    obtain ⟨h1, h2⟩ := List.pairwise_cons.1 h
    intro i x hx y hy
    cases i with
    | zero =>
      simp at hx hy
      subst hx
      exact h1 y hy
    | succ i =>
      simp at hx hy
      rcases hy with rfl | hy
      · exact hs _ _ (h1 x (List.mem_of_getElem? hx))
      · exact ih h2 hx y hy

theorem map_erase {α β : Type} (f : α → β) : ∀ (l : List α) (i : Nat), (l.eraseIdx i).map f = (l.map f).eraseIdx i
  | [], _ => rfl
  | _ :: _, 0 => rfl
  | a :: l, i + 1 => congrArg (f a :: ·) (map_erase f l i)

/-- The air behind a letter that is taken. -/
theorem AirW.drop {w w' : World} {A : Nat} {room : Int} {b : Nat → Nat} {v : Nat → Value} {L : Nat → List LX} {t i : Nat} {x : LX} {v' : Value} (hA : AirW w A room b v L) (ht : t < 17) (hx : (L t)[i]? = some x)
    (hR : R3 w' (b t) v' room (((L t).map LX.lv).eraseIdx i)) (hU : Upd (Of (b t) (v t)) w w') (ho : v'.ownBlock = (v t).ownBlock) :
    AirW w' A room b (upd v t v') (upd L t ((L t).eraseIdx i)) ∧ BS w' x.sv x.bs ∧ (∀ g, x.blk = some g → ¬ Blocks A b (upd v t v') (upd L t ((L t).eraseIdx i)) g) ∧ (∀ k, Blocks A b (upd v t v') (upd L t ((L t).eraseIdx i)) k → Blocks A b v L k) := by
  have hxm : x ∈ L t := List.mem_of_getElem? hx
  have hsub : ∀ y ∈ (L t).eraseIdx i, y ∈ L t := fun y hy => List.mem_of_mem_eraseIdx hy
  have hE : ((L t).eraseIdx i).length ≤ (L t).length := (List.eraseIdx_sublist _ _).length_le
  have hlen := hA.len t ht
  have hW := hA.step ht (v' := v') (l' := (L t).eraseIdx i) (by rw [map_erase]; exact hR) hU (.inl ho) (fun y hy => .inl (hsub y hy)) ((hA.xp t ht).sublist (List.eraseIdx_sublist _ _)) (by omega)
  have hbl : ∀ k, Blocks A b (upd v t v') (upd L t ((L t).eraseIdx i)) k → Blocks A b v L k := by
    rintro k (rfl | ⟨j, hj, hk | ⟨y, hy, hk⟩⟩)
    · exact .inl rfl
    · refine .inr ⟨j, hj, .inl ?_⟩
      by_cases e : j = t
      · subst e
        rw [upd_same] at hk
        rcases hk with hk | hk
        · exact .inl hk
        · exact .inr (ho ▸ hk)
      · rw [upd_other _ _ e] at hk; exact hk
    · refine .inr ⟨j, hj, .inr ⟨y, ?_, hk⟩⟩
      by_cases e : j = t
      · subst e; rw [upd_same] at hy; exact hsub y hy
      · rw [upd_other _ _ e] at hy; exact hy
  refine ⟨hW, (hA.byt t ht x hxm).upd hU (fun k hk => hA.x_not_of ht ht hxm hk), ?_, hbl⟩
  rintro g hg (rfl | ⟨j, hj, hk | ⟨y, hy, hk⟩⟩)
  · exact (hA.x_typed ht hxm hg).ne ⟨_, hA.air⟩ (by decide) rfl
  · have := hbl g (.inr ⟨j, hj, .inl hk⟩)
    by_cases e : j = t
    · subst e
      rw [upd_same] at hk
      exact hA.x_not_of hj hj hxm hg (hk.imp id (fun h => ho ▸ h))
    · rw [upd_other _ _ e] at hk
      exact hA.x_not_of hj ht hxm hg hk
  · by_cases e : j = t
    · subst e
      rw [upd_same] at hy
      exact pairwise_erase LX.apart (fun x y h g hg hy' => h g hy' hg) (hA.xp j ht) hx y hy g hg hk
    · rw [upd_other _ _ e] at hy
      exact hA.xd t j ht hj (fun h => e h.symm) x hxm y hy g hg hk

set_option maxHeartbeats 2000000 in
theorem take_ok (A : Nat) (room : Int) (b : Nat → Nat) (v : Nat → Value) (L : Nat → List LX) (t i : Nat) (f tt : Int) (a : Option Addr) (m d : Nat) (bs : List Int) (w : World) (hA : AirW w A room b v L) (hr : 0 < room) (hr2 : room ≤ 1000) (ht : t < 17) (hx : (L t)[i]? = some ⟨⟨f, tt, a, m, d⟩, bs⟩) :
    Calls Tryd.prog 12 #[.pointer (some ⟨A, 0, none⟩), .int .u8 t, .int .i64 i] w fun e w' => e = .returned (.tuple #[.agg #[.int .u8 f, .int .u8 tt, .slice a m d], .int .i64 0]) ∧
      ∃ v', R3 w' (b t) v' room (((L t).map LX.lv).eraseIdx i) ∧ Upd (Of (b t) (v t)) w w' ∧ v'.ownBlock = (v t).ownBlock := by
  obtain ⟨w1, hw1, hb, hB, hz⟩ := zero_box w
  have H := Lib.hid (look_ok A room b v L t i f tt a m d bs w1 (hA.keepB hB) hr hr2 ht hx)
  have HB := Lib.hid hb
  have HW := Lib.hid hw1
  have hlt1 := lt_of_heap hb
  have HR0 := Lib.hid (hA.ring t ht)
  have hl2 := hA.len t ht
  have hi : i < ((L t).map LX.lv).length := by rw [List.length_map]; exact (List.getElem?_eq_some_iff.1 hx).1
  have hl3 : ((L t).map LX.lv).length ≤ 10000 := by simp; omega
  have HOf : Hid (∀ k, Of (b t) (v t) k → k < w.heap.size) := fun k hk => hA.lt (.inr ⟨t, ht, .inl hk⟩)
  clear hb hw1 hA hx hz
  go_enter Tryd.func12, Tryd.ntmps12
  go_wp2_with fail
  rw [HW.out]
  refine H.out.mono ?_
  rintro e w2 ⟨rfl, hB2⟩
  have hb2 := (hB2.block _ hlt1).trans HB.out
  have hlt2 := lt_of_heap hb2
  obtain ⟨w3, hw3⟩ : ∃ w3, w2.alloc (.cells #[.int .u8 f, .int .u8 tt, .slice a m d] 37) = w3 := ⟨_, rfl⟩
  have hb3 : w3.heap[w.heap.size]? = some (.cells #[.int .u8 0, .int .u8 0, .slice none 0 0] 37 (0, 0)) := by rw [← hw3]; exact blk_alloc hb2 _
  have hn3 : w3.heap[w2.heap.size]? = some (.cells #[.int .u8 f, .int .u8 tt, .slice a m d] 37 (0, 0)) := by rw [← hw3]; exact heap_alloc_new w2 _
  have hB3 : Below w.heap.size w w3 := by rw [← hw3]; exact (hB.trans (hB2.mono hB.size)).alloc (Nat.le_of_lt hlt2) _
  have HD : Hid (∀ w', Upd (fun _ => False) w3 w' → Calls Tryd.prog 35 #[.pointer (some ⟨b t, 0, none⟩), .int .i64 i] w' fun e w4 => e = .returned (.int .i64 0) ∧ ∃ v', R3 w4 (b t) v' room (((L t).map LX.lv).eraseIdx i) ∧ Upd (Of (b t) (v t)) w w4 ∧ v'.ownBlock = (v t).ownBlock ∧
      w4.heap[w.heap.size]? = some (.cells #[.int .u8 0, .int .u8 0, .slice none 0 0] 37 (0, 0)) ∧ w4.heap[w2.heap.size]? = some (.cells #[.int .u8 f, .int .u8 tt, .slice a m d] 37 (0, 0))) := by
    intro w' hu
    refine (rDrop (b t) (v t) room _ i w' (RA.upd (RA.upd HR0.out (Upd.of_below hB3 (fun _ => False)) (fun _ _ h => h)) hu (fun _ _ h => h)) hr hi hl3).mono ?_
    rintro e w4 ⟨rfl, v', hR, hU, ho⟩
    refine ⟨rfl, v', hR, Upd.orfresh hB3 ((hu.mono (fun _ _ h => h.elim)).trans hU (fun _ _ h => h)) (fun k h => h), ho, ?_, ?_⟩
    · exact hU.heap (hu.heap hb3 (fun h => h)) (fun h => by have := HOf.out _ h; omega)
    · exact hU.heap (hu.heap hn3 (fun h => h)) (fun h => by have := HOf.out _ h; omega)
  have y0 := blk_cell hn3 0
  have y1 := blk_cell hn3 1
  have y2 := blk_cell hn3 2
  simp at y0 y1 y2
  have HB3 := Lib.hid hb3
  have HW3 := Lib.hid hw3
  have hne : w.heap.size ≠ w2.heap.size := Nat.ne_of_lt hlt2
  have hne2 : w2.heap.size ≠ w.heap.size := fun h => hne h.symm
  clear hb3 hb2 hw3 hn3
  go_upto_region 4 with fail
  rw [HW3.out]
  go_region_held3 (fun w' => w'.cell? ⟨w2.heap.size, 0, none⟩ = some (.int .u8 f) ∧ w'.cell? ⟨w2.heap.size, 1, none⟩ = some (.int .u8 tt) ∧ w'.cell? ⟨w2.heap.size, 2, none⟩ = some (.slice a m d))
    (first | (simp [*]; done) | go_keep)
    (first | (go_at_call 35; refine (HD.out _ ((Upd.refl _ _).drew)).mono ?_; rintro e w4 ⟨rfl, v', hR, hU, ho, hb4, hn4⟩; have p0 := blk_cell hb4 0; have p1 := blk_cell hb4 1; have p2 := blk_cell hb4 2; have q0 := blk_frozen hb4 0; have q1 := blk_frozen hb4 1; have q2 := blk_frozen hb4 2; have u0 := blk_cell hn4 0; have u1 := blk_cell hn4 1; have u2 := blk_cell hn4 2; simp at p0 p1 p2 u0 u1 u2; have HB4 := Lib.hid hb4; clear hb4 hn4))
  go_wp2_with fail
  have s := blk_set (blk_set (blk_set HB4.out 0 (.int .u8 f)) 1 (.int .u8 tt)) 2 (.slice a m d)
  simp at s
  have e0 := blk_cell s 0
  have e1 := blk_cell s 1
  have e2 := blk_cell s 2
  simp at e0 e1 e2
  have hu2 : Upd (fun k => k = w.heap.size) w4 (((w4.setCell ⟨w.heap.size, 0, none⟩ (.int .u8 f)).setCell ⟨w.heap.size, 1, none⟩ (.int .u8 tt)).setCell ⟨w.heap.size, 2, none⟩ (.slice a m d)) := (((Upd.refl (fun k => k = w.heap.size) w4).setCell ⟨w.heap.size, 0, none⟩ _ (fun _ => rfl)).setCell ⟨w.heap.size, 1, none⟩ _ (fun _ => rfl)).setCell ⟨w.heap.size, 2, none⟩ _ (fun _ => rfl)
  refine bodyPost_ret (v := .tuple #[.agg #[.int .u8 f, .int .u8 tt, .slice a m d], .int .i64 0]) (by simp [results, Tryd.results12, go_sem, e0, e1, e2]) rfl ⟨rfl, v', RA.upd hR hu2 (fun k hk e => ?_), hU.trans hu2 (fun k h e => by omega), ho⟩
  have := HOf.out k (hk.imp id (fun h => ho ▸ h))
  omega

/-- Take, in the air's words. -/
theorem take_air (P : Nat → Prop) (A : Nat) (room : Int) (st : Nat → List Lt) (t i : Nat) (x : Lt) (w : World) (h : AirAt w P A room st) (hr : 0 < room) (hr2 : room ≤ 1000) (ht : t < 17) (hx : (st t)[i]? = some x) :
    Calls Tryd.prog 12 #[.pointer (some ⟨A, 0, none⟩), .int .u8 t, .int .i64 i] w fun e w' => ∃ a m d, e = .returned (.tuple #[.agg #[.int .u8 x.f, .int .u8 x.t, .slice a m d], .int .i64 0]) ∧ BS w' (.slice a m d) x.bs ∧
      ∃ P', AirAt w' P' A room (upd st t ((st t).eraseIdx i)) ∧ Upd P w w' ∧ (∀ k, P' k → P k) ∧ ∀ g, (Value.slice a m d).ownBlock = some g → ¬ P' g := by
  obtain ⟨b, v, L, hA, hP, hst⟩ := h
  rw [hst t ht, List.getElem?_map] at hx
  obtain ⟨y, hy, rfl⟩ : ∃ y, (L t)[i]? = some y ∧ y.lt = x := by
    cases e : (L t)[i]? with
    | none => rw [e] at hx; simp at hx
    | some y => rw [e] at hx; exact ⟨y, rfl, by simpa using hx⟩
  obtain ⟨⟨f, tt, a, m, d⟩, bs⟩ := y
  refine (take_ok A room b v L t i f tt a m d bs w hA hr hr2 ht hy).mono ?_
  rintro e w' ⟨rfl, v', hR, hU, ho⟩
  obtain ⟨h1, h2, h3, h4⟩ := hA.drop ht hy hR hU ho
  refine ⟨a, m, d, rfl, h2, _, ⟨b, _, _, h1, fun _ h => h, fun j hj => ?_⟩, hU.mono (fun k _ h => hP k (.inr ⟨t, ht, .inl h⟩)), fun k h => hP k (h4 k h), h3⟩
  by_cases e : j = t
  · subst e; rw [upd_same, upd_same, hst j hj, map_erase]
  · rw [upd_other _ _ e, upd_other _ _ e]; exact hst j hj

end Go.Proofs.YtehgbpepaakanaaDoor
