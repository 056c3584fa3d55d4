/-
  The contracts of the ring of int64.
-/
import Derived.Test.YthehhnlkpcfofaaRows
import Derived.Test.YthehhnlkpcfofaaD
import Derived.WalkKit
import Derived.WalkSpells
import Derived.WalkLawsBesides
import Derived.Deep.QuietTactic
import Derived.BigQuiet
import Derived.Lib.Hide
namespace Go.Proofs.Ythehhnlkpcfofaa
open Go.RowKit
set_option linter.unusedVariables false

set_option maxHeartbeats 400000 in
theorem good_yes (b : Nat) (room : Int) (hr : 0 < room) (w : World) (hc : w.cell? ⟨b, 1, none⟩ = some (.int .i64 room)) :
    Calls Try.prog 33 #[.pointer (some ⟨b, 0, none⟩)] w fun e w' => e = .returned (.bool true) ∧ w = w' := by
  go_enter Try.func33, Try.ntmps33
  go_wp2
  go_ret
  exact ⟨rfl, rfl⟩

set_option maxHeartbeats 400000 in
theorem good_nil (w : World) :
    Calls Try.prog 33 #[.pointer none] w fun e w' => e = .returned (.bool false) ∧ w = w' := by
  go_enter Try.func33, Try.ntmps33
  go_wp2
  go_ret
  exact ⟨rfl, rfl⟩

set_option maxHeartbeats 400000 in
theorem good_no (b : Nat) (w : World) (hc : w.cell? ⟨b, 1, none⟩ = some (.int .i64 0)) :
    Calls Try.prog 33 #[.pointer (some ⟨b, 0, none⟩)] w fun e w' => e = .returned (.bool false) ∧ w = w' := by
  go_enter Try.func33, Try.ntmps33
  go_wp2
  go_ret
  exact ⟨rfl, rfl⟩


abbrev R1 := RA 72 2 1

set_option maxHeartbeats 400000 in
theorem push_full (b : Nat) (v : Value) (room : Int) (n : Nat) (xs : List Value) (x : Value) (w : World) (h : R1 w b v room n xs) (hr : 0 < room) (hn : room ≤ (n : Int)) :
    Calls Try.prog 11 #[.pointer (some ⟨b, 0, none⟩), x] w fun e w' => e = .returned (.int .i64 6) ∧ Upd (fun _ => False) w w' := by
  obtain ⟨a, c, rfl, hnc, hcm⟩ := h.slice
  have h0 := h.c0
  have h1 := h.c1
  go_enter Try.func11, Try.ntmps11
  go_wp2_with (go_at_call 33; refine (good_yes _ _ hr _ h1).mono ?_; rintro e w' ⟨rfl, rfl⟩)
  go_quiet (fail)
  go_wp2
  go_ret
  exact ⟨rfl, (Upd.refl _ _).drewN _⟩

set_option maxHeartbeats 400000 in
theorem push_ok (b : Nat) (v : Value) (room : Int) (n : Nat) (xs : List Value) (x : Int) (w : World) (h : R1 w b v room n xs) (hr : 0 < room) (hr2 : room ≤ 10000) (hn : (n : Int) < room) :
    Calls Try.prog 11 #[.pointer (some ⟨b, 0, none⟩), .int .i64 x] w fun e w' => e = .returned (.int .i64 0) ∧
      ∃ v', R1 w' b v' room (n + 1) (xs ++ [.int .i64 x]) ∧ Upd (Of b v) w w' ∧ (v'.ownBlock = v.ownBlock ∨ ∃ g, v'.ownBlock = some g ∧ w.heap.size ≤ g) := by
  obtain ⟨i0, hi0, hz0, hz1, hz2⟩ := info_parts Try.infoE
  obtain ⟨a, c, rfl, hnc, hcm⟩ := h.slice
  have hown := h.2
  have hne := own_block_ne h.2 h.1 (by decide)
  have h0 := h.c0
  have h1 := h.c1
  have hb := h.1
  have hlt := lt_of_heap hb
  clear h
  go_enter Try.func11, Try.ntmps11
  go_wp2_with (go_at_call 33; refine (good_yes _ _ hr _ h1).mono ?_; rintro e w' ⟨rfl, rfl⟩)
  go_quiet (fail)
  have hw1 : ((w.drewN nq).alloc (.cells #[.int .i64 x] 2)).ownsRow 0 2 1 (.slice a n c) n xs := World.ownsRow.alloc (w := w.drewN nq) hown _
  go_wp2_with (at_builtin; refine wpList_append_lies _ rfl (.tmp 24) (.tmp 26) 22 rfl 0 2 i0 _ 1 8 Try.underlying22 hi0 hz0 hz1 hz2 rfl (by decide) _ _ _ rfl hw1 ⟨w.heap.size, 0, none⟩ 1 1 [.int .i64 x] rfl rfl ?c1 ?c2 (by decide) ?c3 ?c4 (Nat.zero_le _) _ rfl ?_)
  case c1 => exact cell_one_new (w.drewN nq) _ _
  case c2 => intro u hu; simp at hu; subst hu; rfl
  case c3 => unfold maxLen; omega
  case c4 => omega
  intro g cap w2 hown2 hgrow hat hg
  have hU : Upd (fun k => (Value.slice a n c).ownBlock = some k) w w2 := ((Upd.refl _ w).drewN nq |>.alloc (.cells #[.int .i64 x] 2)).trans (Upd.of_grown hgrow) (fun _ _ h => h)
  have hb2 : w2.heap[b]? = some (.cells #[.slice a n c, .int .i64 room] 72 (0, 0)) := hU.heap hb hne
  have hne2 := own_block_ne hown2 hb2 (by decide)
  have k0 := blk_cell hb2 0
  have f0 := blk_frozen hb2 0
  simp at k0
  go_wp2
  go_ret
  refine ⟨rfl, _, ⟨?_, ownsRow_setCell_far hown2 _ _ hne2⟩, (hU.mono fun _ _ h => .inr h).setCell _ _ (fun _ => .inl rfl), ?_⟩
  · have := blk_set hb2 0 (.slice (some ⟨g, 0, none⟩) (n + 1) cap)
    simpa using this
  · rcases hat with h | rfl
    · exact .inl (by rw [h]; rfl)
    · exact .inr ⟨_, rfl, by simp⟩

set_option maxHeartbeats 400000 in
theorem at_in (b : Nat) (v : Value) (room : Int) (n : Nat) (xs : List Value) (i : Int) (w : World) (h : R1 w b v room n xs) (hr : 0 < room) (hi0 : 0 ≤ i) (hi : i < (n : Int)) (x : Int) (hx : xs[i.toNat]? = some (.int .i64 x)) :
    Calls Try.prog 19 #[.pointer (some ⟨b, 0, none⟩), .int .i64 i] w fun e w' => e = .returned (.tuple #[.int .i64 x, .int .i64 0]) ∧ w = w' := by
  obtain ⟨g, c, rfl, _, _⟩ := h.2.form (by omega)
  have hcell := h.2.cellAt i.toNat (by omega)
  rw [hx] at hcell
  have h0 := h.c0
  have h1 := h.c1
  clear h hx
  go_enter Try.func19, Try.ntmps19
  go_wp2_with (go_at_call 33; refine (good_yes _ _ hr _ h1).mono ?_; rintro e w' ⟨rfl, rfl⟩)
  go_ret2
  exact ⟨rfl, rfl⟩

set_option maxHeartbeats 400000 in
theorem at_out (b : Nat) (v : Value) (room : Int) (n : Nat) (xs : List Value) (i : Int) (w : World) (h : R1 w b v room n xs) (hr : 0 < room) (hi : i < 0 ∨ (n : Int) ≤ i) :
    Calls Try.prog 19 #[.pointer (some ⟨b, 0, none⟩), .int .i64 i] w fun e w' => e = .returned (.tuple #[.int .i64 0, .int .i64 7]) ∧ w = w' := by
  obtain ⟨a, c, rfl, hnc, hcm⟩ := h.slice
  have h0 := h.c0
  have h1 := h.c1
  clear h
  rcases hi with hi | hi
  · go_enter Try.func19, Try.ntmps19
    go_wp2_with (go_at_call 33; refine (good_yes _ _ hr _ h1).mono ?_; rintro e w' ⟨rfl, rfl⟩)
    go_ret2
    exact ⟨rfl, rfl⟩
  · have hi2 : ¬ i < 0 := by omega
    go_enter Try.func19, Try.ntmps19
    go_wp2_with (go_at_call 33; refine (good_yes _ _ hr _ h1).mono ?_; rintro e w' ⟨rfl, rfl⟩)
    go_ret2
    exact ⟨rfl, rfl⟩

set_option maxHeartbeats 400000 in
theorem new_ok (room : Int) (w : World) (h1 : 1 ≤ room) (h2 : room ≤ 10000) :
    Calls Try.prog 10 #[.int .i64 room] w fun e w' => e = .returned (.pointer (some ⟨w.heap.size, 0, none⟩)) ∧ R1 w' w.heap.size (.slice none 0 0) room 0 [] ∧ Below w.heap.size w w' := by
  go_enter Try.func10, Try.ntmps10
  go_wp2
  go_ret
  exact ⟨rfl, ⟨heap_alloc_new w _, World.ownsRow_nil _ _ _ _⟩, (Below.refl _ _).alloc (Nat.le_refl _) _⟩

set_option maxHeartbeats 400000 in
theorem new_no (room : Int) (w : World) (h : room < 1 ∨ 10000 < room) :
    Calls Try.prog 10 #[.int .i64 room] w fun e w' => e = .returned (.pointer none) ∧ w = w' := by
  rcases h with h | h
  · go_enter Try.func10, Try.ntmps10
    go_wp2
    go_ret
    exact ⟨rfl, rfl⟩
  · have h' : ¬ room < 1 := by omega
    go_enter Try.func10, Try.ntmps10
    go_wp2
    go_ret
    exact ⟨rfl, rfl⟩

set_option maxHeartbeats 400000 in
theorem len_is (b : Nat) (v : Value) (room : Int) (n : Nat) (xs : List Value) (w : World) (h : R1 w b v room n xs) (hr : 0 < room) :
    Calls Try.prog 13 #[.pointer (some ⟨b, 0, none⟩)] w fun e w' => e = .returned (.int .i64 n) ∧ w = w' := by
  obtain ⟨a, c, rfl, hnc, hcm⟩ := h.slice
  have h0 := h.c0
  have h1 := h.c1
  clear h
  go_enter Try.func13, Try.ntmps13
  go_wp2_with (go_at_call 33; refine (good_yes _ _ hr _ h1).mono ?_; rintro e w' ⟨rfl, rfl⟩)
  go_ret
  exact ⟨rfl, rfl⟩

def enc1 (x : Int) : List Value := [.int .i64 x]
theorem enc1_len (x : Int) : (enc1 x).length = 1 := rfl
theorem enc1_one (zs : List Int) : ∀ u ∈ cellsOf enc1 zs, u.oneCell' = true := by
  intro u hu
  obtain ⟨x, _, hx⟩ := List.mem_flatMap.1 hu
  simp [enc1] at hx
  subst hx
  rfl
/-- The ring at block b, whose row is v, has the room and the things zs. -/
def RI (w : World) (b : Nat) (v : Value) (room : Int) (zs : List Int) : Prop := R1 w b v room zs.length (cellsOf enc1 zs)
theorem RI.upd {w w' : World} {b : Nat} {v : Value} {room : Int} {zs : List Int} (h : RI w b v room zs) {S : Nat → Prop} (hu : Upd S w w') (hb : ∀ k, Of b v k → ¬ S k) : RI w' b v room zs := RA.upd h hu hb

theorem RI.at_ {w : World} {b : Nat} {v : Value} {room : Int} {zs : List Int} (i : Int) (x : Int) (hx : zs[i.toNat]? = some x) : (cellsOf enc1 zs)[i.toNat]? = some (.int .i64 x) := by
  have := cellsOf_at enc1 1 enc1_len zs i.toNat 0 x hx (by omega)
  simpa [enc1] using this

theorem iAt_in (b : Nat) (v : Value) (room : Int) (zs : List Int) (i : Int) (w : World) (h : RI w b v room zs) (hr : 0 < room) (hi0 : 0 ≤ i) (x : Int) (hx : zs[i.toNat]? = some x) :
    Calls Try.prog 19 #[.pointer (some ⟨b, 0, none⟩), .int .i64 i] w fun e w' => e = .returned (.tuple #[.int .i64 x, .int .i64 0]) ∧ w = w' := by
  have hlt := (List.getElem?_eq_some_iff.1 hx).1
  exact at_in b v room _ _ i w h hr hi0 (by omega) x (RI.at_ (w := w) (b := b) (v := v) (room := room) i x hx)

theorem iAt_out (b : Nat) (v : Value) (room : Int) (zs : List Int) (i : Int) (w : World) (h : RI w b v room zs) (hr : 0 < room) (hi : i < 0 ∨ (zs.length : Int) ≤ i) :
    Calls Try.prog 19 #[.pointer (some ⟨b, 0, none⟩), .int .i64 i] w fun e w' => e = .returned (.tuple #[.int .i64 0, .int .i64 7]) ∧ w = w' :=
  at_out b v room _ _ i w h hr hi

theorem iPush_full (b : Nat) (v : Value) (room : Int) (zs : List Int) (x : Int) (w : World) (h : RI w b v room zs) (hr : 0 < room) (hn : room ≤ (zs.length : Int)) :
    Calls Try.prog 11 #[.pointer (some ⟨b, 0, none⟩), .int .i64 x] w fun e w' => e = .returned (.int .i64 6) ∧ Upd (fun _ => False) w w' :=
  push_full b v room _ _ _ w h hr hn

theorem iPush (b : Nat) (v : Value) (room : Int) (zs : List Int) (x : Int) (w : World) (h : RI w b v room zs) (hr : 0 < room) (hr2 : room ≤ 10000) (hn : (zs.length : Int) < room) :
    Calls Try.prog 11 #[.pointer (some ⟨b, 0, none⟩), .int .i64 x] w fun e w' => e = .returned (.int .i64 0) ∧
      ∃ v', RI w' b v' room (zs ++ [x]) ∧ Upd (Of b v) w w' ∧ (v'.ownBlock = v.ownBlock ∨ ∃ g, v'.ownBlock = some g ∧ w.heap.size ≤ g) := by
  refine (push_ok b v room _ _ x w h hr hr2 hn).mono ?_
  rintro e w' ⟨he, v', hR, hU, ho⟩
  refine ⟨he, v', ?_, hU, ho⟩
  unfold RI
  rw [List.length_append, cellsOf_append, cellsOf_one]
  exact hR

set_option maxHeartbeats 400000 in
theorem iDrop_out (b : Nat) (v : Value) (room : Int) (zs : List Int) (i : Int) (w : World) (h : RI w b v room zs) (hr : 0 < room) (hi : i < 0 ∨ (zs.length : Int) ≤ i) :
    Calls Try.prog 20 #[.pointer (some ⟨b, 0, none⟩), .int .i64 i] w fun e w' => e = .returned (.int .i64 7) ∧ w = w' := by
  have hc := Lib.hid (iAt_out b v room zs i w h hr hi)
  clear h hi
  go_enter Try.func20, Try.ntmps20
  go_wp2_with (go_at_call 19; refine hc.out.mono ?_; rintro e w' ⟨rfl, rfl⟩)
  go_ret
  exact ⟨rfl, rfl⟩

set_option maxHeartbeats 800000 in
theorem iDrop (b : Nat) (v : Value) (room : Int) (zs : List Int) (i : Nat) (w : World) (h : RI w b v room zs) (hr : 0 < room) (hi : i < zs.length) :
    Calls Try.prog 20 #[.pointer (some ⟨b, 0, none⟩), .int .i64 i] w fun e w' => e = .returned (.int .i64 0) ∧
      ∃ v', RI w' b v' room (zs.eraseIdx i) ∧ Upd (Of b v) w w' ∧ v'.ownBlock = v.ownBlock := by
  obtain ⟨x, hx⟩ : ∃ x, zs[i]? = some x := ⟨zs[i], List.getElem?_eq_getElem hi⟩
  have hc := Lib.hid (iAt_in b v room zs i w h hr (by omega) x hx)
  have hb := h.1
  obtain ⟨g, cap, rfl, _, hg⟩ := h.2.form (by omega)
  have hne := own_block_ne h.2 hb (by decide)
  have hgb : g ≠ b := fun e => hne (by rw [e]; rfl)
  have hd := Lib.hid (delete1 0 g zs.length cap i _ w h.2 (enc1_one zs) hi)
  have h0 := h.c0
  obtain ⟨_, _, hv, hnc, hcm⟩ := h.slice
  simp only [Value.slice.injEq, true_and] at hv
  obtain ⟨rfl, rfl⟩ := hv
  have hin : (i : Int) < (zs.length : Int) := by omega
  have hres := Lib.hid (cellsOf_erase enc1 1 enc1_len zs i)
  have hlen : (zs.eraseIdx i).length = zs.length - 1 := List.length_eraseIdx_of_lt hi
  have HL := Lib.hid hlen
  clear h hx hne hlen
  go_enter Try.func20, Try.ntmps20
  go_wp2_with (go_at_call 19; refine hc.out.mono ?_; rintro e w' ⟨rfl, rfl⟩)
  refine hd.out.mono ?_
  rintro e w2 ⟨rfl, hown2, hgrow⟩
  have hU : Upd (fun k => some g = some k) w w2 := Upd.of_grown hgrow
  have hb2 := hU.heap hb (by simpa using hgb)
  have hne2 := own_block_ne hown2 hb2 (by decide)
  have k0 := blk_cell hb2 0
  have f0 := blk_frozen hb2 0
  simp at k0
  go_wp2
  go_ret
  refine ⟨rfl, .slice (some ⟨g, 0, none⟩) (zs.length - 1) cap, ⟨?_, ?_⟩, (hU.mono fun k _ h => .inr h).setCell _ _ (fun _ => .inl rfl), rfl⟩
  · have := blk_set hb2 0 (.slice (some ⟨g, 0, none⟩) (zs.length - 1) cap)
    simpa using this
  · rw [HL.out, ← hres.out]
    exact ownsRow_setCell_far hown2 _ _ hne2

set_option maxHeartbeats 400000 in
theorem iPop_none (b : Nat) (v : Value) (room : Int) (w : World) (h : RI w b v room []) (hr : 0 < room) :
    Calls Try.prog 12 #[.pointer (some ⟨b, 0, none⟩)] w fun e w' => e = .returned (.tuple #[.int .i64 0, .int .i64 7]) ∧ w = w' := by
  have hc := Lib.hid (iAt_out b v room [] 0 w h hr (by simp))
  clear h
  go_enter Try.func12, Try.ntmps12
  go_wp2_with (go_at_call 19; refine hc.out.mono ?_; rintro e w' ⟨rfl, rfl⟩)
  go_ret2
  exact ⟨rfl, rfl⟩

set_option maxHeartbeats 800000 in
theorem iPop (b : Nat) (v : Value) (room : Int) (x : Int) (zs : List Int) (w : World) (h : RI w b v room (x :: zs)) (hr : 0 < room) :
    Calls Try.prog 12 #[.pointer (some ⟨b, 0, none⟩)] w fun e w' => e = .returned (.tuple #[.int .i64 x, .int .i64 0]) ∧
      ∃ v', RI w' b v' room zs ∧ Upd (Of b v) w w' ∧ v'.ownBlock = v.ownBlock := by
  have hc := Lib.hid (iAt_in b v room (x :: zs) 0 w h hr (by omega) x rfl)
  have hb := h.1
  obtain ⟨g, cap, rfl, _, hg⟩ := h.2.form (by simp)
  have hne := own_block_ne h.2 hb (by decide)
  have hgb : g ≠ b := fun e => hne (by rw [e]; rfl)
  have hd := Lib.hid (delete1 0 g (x :: zs).length cap 0 _ w h.2 (enc1_one _) (by simp))
  have h0 := h.c0
  have hres := Lib.hid (cellsOf_erase enc1 1 enc1_len (x :: zs) 0)
  clear h hne
  go_enter Try.func12, Try.ntmps12
  go_wp2_with (go_at_call 19; refine hc.out.mono ?_; rintro e w' ⟨rfl, rfl⟩)
  refine hd.out.mono ?_
  rintro e w2 ⟨rfl, hown2, hgrow⟩
  have hU : Upd (fun k => some g = some k) w w2 := Upd.of_grown hgrow
  have hb2 := hU.heap hb (by simpa using hgb)
  have hne2 := own_block_ne hown2 hb2 (by decide)
  have k0 := blk_cell hb2 0
  have f0 := blk_frozen hb2 0
  simp at k0
  go_wp2
  go_ret2
  refine ⟨rfl, .slice (some ⟨g, 0, none⟩) zs.length cap, ⟨?_, ?_⟩, (hU.mono fun k _ h => .inr h).setCell _ _ (fun _ => .inl rfl), rfl⟩
  · have := blk_set hb2 0 (.slice (some ⟨g, 0, none⟩) zs.length cap)
    simpa using this
  · have h3 := ownsRow_setCell_far hown2 ⟨b, 0, none⟩ (.slice (some ⟨g, 0, none⟩) zs.length cap) hne2
    rw [hres.out] at h3
    simpa using h3

end Go.Proofs.Ythehhnlkpcfofaa
