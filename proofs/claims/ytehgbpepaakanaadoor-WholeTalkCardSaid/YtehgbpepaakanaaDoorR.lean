/-
  The contracts of a ring whose elements take 3 cells.
-/
import Derived.Test.YtehgbpepaakanaaDoorRows
import Derived.Test.YtehgbpepaakanaaDoorK
import Derived.WalkKit
import Derived.WalkSpells
import Derived.WalkLawsBesides
import Derived.Deep.QuietTactic
import Derived.Deep.RegionHeldLaw
import Derived.Deep.RegionLaw
import Derived.Maps.AppendAt
import Derived.Lib.Walk
import Derived.BigQuiet
import Derived.Lib.Hide
namespace Go.Proofs.YtehgbpepaakanaaDoor
open Go.RowKit
set_option linter.unusedVariables false
set_option maxRecDepth 20000
set_option linter.unusedSimpArgs false

/-- A letter's cells: from, to, the slice of its bytes. -/
structure Lv where
  f : Int
  t : Int
  a : Option Addr
  m : Nat
  d : Nat
theorem Tryd.infoE3 : (Tryd.prog.info? 37).map (fun i => (i.zero, i.size, i.bytes)) = some (some (.agg #[.int .u8 0, .int .u8 0, .slice none 0 0]), 3, 32) := by kernel_rfl
theorem Tryd.zeroE3 (w : World) : (zeroValue 37).run Tryd.prog w = .ok (.agg #[.int .u8 0, .int .u8 0, .slice none 0 0]) w := by kernel_rfl

def enc3 : Lv → List Value := fun p => [.int .u8 p.f, .int .u8 p.t, .slice p.a p.m p.d]
theorem enc3_len (x : Lv) : (enc3 x).length = 3 := rfl
theorem enc3_one (zs : List (Lv)) : ∀ u ∈ cellsOf enc3 zs, u.oneCell' = true := by
  intro u hu
  obtain ⟨x, _, hx⟩ := List.mem_flatMap.1 hu
  simp only [enc3, List.mem_cons, List.not_mem_nil, or_false] at hx
  rcases hx with rfl | hx
  · rfl
  all_goals (first | (subst hx; rfl) | (rcases hx with rfl | rfl <;> rfl))

/-- The ring at block b, whose row is v, has the room and the things zs. -/
def R3 (w : World) (b : Nat) (v : Value) (room : Int) (zs : List (Lv)) : Prop := RA 129 37 3 w b v room zs.length (cellsOf enc3 zs)
theorem R3.upd {w w' : World} {b : Nat} {v : Value} {room : Int} {zs : List (Lv)} (h : R3 w b v room zs) {S : Nat → Prop} (hu : Upd S w w') (hb : ∀ k, Of b v k → ¬ S k) : R3 w' b v room zs := RA.upd h hu hb

set_option maxHeartbeats 400000 in
theorem rGood_yes (b : Nat) (room : Int) (hr : 0 < room) (w : World) (hc : w.cell? ⟨b, 1, none⟩ = some (.int .i64 room)) :
    Calls Tryd.prog 54 #[.pointer (some ⟨b, 0, none⟩)] w fun e w' => e = .returned (.bool true) ∧ w = w' := by
  go_enter Tryd.func54, Tryd.ntmps54
  go_wp2
  go_ret
  exact ⟨rfl, rfl⟩
set_option maxHeartbeats 400000 in
theorem rGood_nil (w : World) :
    Calls Tryd.prog 54 #[.pointer none] w fun e w' => e = .returned (.bool false) ∧ w = w' := by
  go_enter Tryd.func54, Tryd.ntmps54
  go_wp2
  go_ret
  exact ⟨rfl, rfl⟩

set_option maxHeartbeats 400000 in
theorem rNew_ok (room : Int) (w : World) (h1 : 1 ≤ room) (h2 : room ≤ 10000) :
    Calls Tryd.prog 29 #[.int .i64 room] w fun e w' => e = .returned (.pointer (some ⟨w.heap.size, 0, none⟩)) ∧ w' = w.alloc (.cells #[.slice none 0 0, .int .i64 room] 129) := by
  go_enter Tryd.func29, Tryd.ntmps29
  go_wp2
  go_ret
  exact ⟨rfl, rfl⟩
theorem rNew_ring (room : Int) (w : World) : R3 (w.alloc (.cells #[.slice none 0 0, .int .i64 room] 129)) w.heap.size (.slice none 0 0) room [] := ⟨heap_alloc_new w _, World.ownsRow_nil _ _ _ _⟩
set_option maxHeartbeats 400000 in
theorem rNew_no (room : Int) (w : World) (h : room < 1 ∨ 10000 < room) :
    Calls Tryd.prog 29 #[.int .i64 room] w fun e w' => e = .returned (.pointer none) ∧ w = w' := by
  rcases h with h | h
  · go_enter Tryd.func29, Tryd.ntmps29
    go_wp2
    go_ret
    exact ⟨rfl, rfl⟩
  · have h' : ¬ room < 1 := by omega
    go_enter Tryd.func29, Tryd.ntmps29
    go_wp2
    go_ret
    exact ⟨rfl, rfl⟩

set_option maxHeartbeats 400000 in
theorem rLen (b : Nat) (v : Value) (room : Int) (zs : List (Lv)) (w : World) (h : R3 w b v room zs) (hr : 0 < room) :
    Calls Tryd.prog 42 #[.pointer (some ⟨b, 0, none⟩)] w fun e w' => e = .returned (.int .i64 zs.length) ∧ w = w' := by
  obtain ⟨a, c, rfl, hnc, hcm⟩ := RA.slice h
  have h0 := RA.c0 h
  have h1 := RA.c1 h
  clear h
  go_enter Tryd.func42, Tryd.ntmps42
  go_wp2_with (go_at_call 54; refine (rGood_yes _ _ hr _ h1).mono ?_; rintro e w' ⟨rfl, rfl⟩)
  go_ret
  exact ⟨rfl, rfl⟩

set_option maxHeartbeats 400000 in
theorem rPush_full (b : Nat) (v : Value) (room : Int) (zs : List (Lv)) (f t : Int) (a : Option Addr) (m d : Nat) (w : World) (h : R3 w b v room zs) (hr : 0 < room) (hn : room ≤ (zs.length : Int)) :
    Calls Tryd.prog 32 #[.pointer (some ⟨b, 0, none⟩), .agg #[.int .u8 f, .int .u8 t, .slice a m d]] w fun e w' => e = .returned (.int .i64 6) ∧ Below w.heap.size w w' := by
  have hA : R3 (w.alloc (.cells #[.int .u8 f, .int .u8 t, .slice a m d] 37)) b v room zs := h.upd (S := fun _ => False) ((Upd.refl _ w).alloc _) (fun _ _ h => h)
  obtain ⟨aa, cc, rfl, hnc, hcm⟩ := RA.slice h
  have h0 := RA.c0 hA
  have h1 := RA.c1 hA
  have hlt := lt_of_heap h.1
  clear h hA
  go_enter Tryd.func32, Tryd.ntmps32
  go_wp2_with (go_at_call 54; refine (rGood_yes _ _ hr _ h1).mono ?_; rintro e w' ⟨rfl, rfl⟩)
  go_quiet (fail)
  go_wp2
  go_ret
  exact ⟨rfl, (((Upd.refl (fun _ => False) w).alloc _).drewN _).below (Nat.le_refl _) (fun _ _ h => h)⟩


theorem step_append_at3 {P : Program} {w : World} {ops : Array Oper} {o : Oper} {a : Act} {K : Act → World → Prop} {Q : Exit → Act → World → Prop} {E : Prop} (hw : Region.wanted o (yielded ops a.tmps) = true) (s x : Operand) (t : TypeId)
    (ho : o.op = .call { callee := .builtin .append, args := #[s, x], argTypes := #[t, t] })
    (base : Nat) (e : TypeId) (i : TypeInfo) (z : Value) (size bytes : Nat) (ht : P.underlying t = some (.slice e)) (hi : P.info? e = some i) (hz : i.zero = some z)
    (hsize : i.size = size) (hby : i.bytes = bytes) (hzs : z.cells.size = size) (hsz : 0 < size)
    (v : Value) (n : Nat) (xs : List Value) (hs : a.eval s = v) (hown : w.ownsRow base e size v n xs)
    (ad : Addr) (m c : Nat) (news : List Value) (hx : a.eval x = .slice (some ad) m c) (hl : news.length = m * size) (hnews : ∀ j u, news[j]? = some u → w.cell? (ad.add j) = some u) (h1 : ∀ u ∈ news, u.oneCell' = true)
    (h63 : n + m ≤ maxLen) (hbytes : (n + m) * bytes ≤ 140737488355328) (hbase : base ≤ w.heap.size)
    (h : ∀ v' w', w'.ownsRow base e size v' (n + m) (xs ++ news) → w.grownBy w' v.ownBlock → (v'.ownBlock = v.ownBlock ∨ v'.ownBlock = some w.heap.size) → K (a.put o.dst v') w') :
    if Region.wanted o (yielded ops a.tmps) = true then Oper.wp P o a w K Q else E := by
  rw [if_pos hw]
  obtain ⟨v', w', hr, h2, h3, _, h5⟩ := run_append_own_at (P := P) w base t o.type e i z size bytes ht hi hz hsize hby hzs hsz v n xs hown ad m c news hl hnews h1 h63 hbytes hbase
  unfold Oper.wp execOp
  simp only [ho, resolve, invoke, builtin, Sem.run_bind, Sem.run_pure, Result.andThen_ok, List.map_toArray, List.map_cons, List.map_nil, hs, hx, hr]
  exact h v' w' h2 h3 h5

theorem news_new (W : World) (cs : Array Value) (t : TypeId) : ∀ j u, cs.toList[j]? = some u → (W.alloc (.cells cs t)).cell? ((⟨W.heap.size, 0, none⟩ : Addr).add j) = some u :=
  World.news_of_block (heap_alloc_new W _)

set_option maxHeartbeats 1000000 in
theorem rPush (b : Nat) (v : Value) (room : Int) (zs : List (Lv)) (f t : Int) (a : Option Addr) (m d : Nat) (w : World) (h : R3 w b v room zs) (hr : 0 < room) (hr2 : room ≤ 10000) (hn : (zs.length : Int) < room) :
    Calls Tryd.prog 32 #[.pointer (some ⟨b, 0, none⟩), .agg #[.int .u8 f, .int .u8 t, .slice a m d]] w fun e w' => e = .returned (.int .i64 0) ∧
      ∃ v', R3 w' b v' room (zs ++ [(Lv.mk f t a m d)]) ∧ Upd (Of b v) w w' ∧ (v'.ownBlock = v.ownBlock ∨ ∃ g, v'.ownBlock = some g ∧ w.heap.size ≤ g) := by
  obtain ⟨i0, hi0, hz0, hz1, hz2⟩ := info_parts Tryd.infoE3
  obtain ⟨w1, hw1⟩ : ∃ w1, w.alloc (.cells #[.int .u8 f, .int .u8 t, .slice a m d] 37) = w1 := ⟨_, rfl⟩
  have U1 : Upd (fun _ => False) w w1 := by rw [← hw1]; exact (Upd.refl _ w).alloc _
  have hA : R3 w1 b v room zs := h.upd U1 (fun _ _ h => h)
  have hbx : w1.heap[w.heap.size]? = some (.cells #[.int .u8 f, .int .u8 t, .slice a m d] 37 (0, 0)) := by rw [← hw1]; exact heap_alloc_new w _
  have hz1' : w.heap.size < w1.heap.size := lt_of_heap hbx
  have hlt := RA.lt h
  clear h
  obtain ⟨aa, cc, rfl, hnc, hcm⟩ := RA.slice hA
  have h1 := RA.c1 hA
  have h0 := RA.c0 hA
  have HW := Lib.hid hw1
  go_enter Tryd.func32, Tryd.ntmps32
  go_wp2_with (go_at_call 54; (try rw [HW.out]); refine (rGood_yes _ _ hr _ h1).mono ?_; rintro e w' ⟨rfl, rfl⟩)
  clear hw1
  go_quiet (fail)
  generalize hW : w1.drewN nq = W at *
  have U2 : Upd (fun _ => False) w1 W := by rw [← hW]; exact (Upd.refl _ w1).drewN _
  have hA2 : R3 W b (.slice aa zs.length cc) room zs := hA.upd U2 (fun _ _ h => h)
  have hbx2 := U2.heap hbx (fun h => h)
  have hzW : W.heap.size = w1.heap.size := by rw [← hW]; rfl
  clear hW h0 h1
  have h0 := RA.c0 hA2
  have f0 := RA.f0 hA2
  have X := fun j => blk_cell hbx2 j
  have x0 := X 0
  have x1 := X 1
  have x2 := X 2
  simp at x0 x1 x2
  have hown := hA2.2
  have hne := own_block_ne hown hA2.1 (by decide)
  have HOWN : Hid (((W.alloc (.cells #[.int .u8 f, .int .u8 t, .slice a m d] 37)).drew).ownsRow 0 37 3 (.slice aa zs.length cc) zs.length (cellsOf enc3 zs)) := World.ownsRow.alloc (w := W.drew) hown _
  have hbW := hA2.1
  have hW1 : w1.heap.size = w.heap.size + 1 := by rw [← HW.out]; simp
  have hlb := hlt b (.inl rfl)
  have hlbW : b < W.heap.size := lt_of_heap hA2.1
  have FIN : ∀ (v' : Value) (w2 : World), w2.ownsRow 0 37 3 v' (zs.length + 1) (cellsOf enc3 zs ++ [.int .u8 f, .int .u8 t, .slice a m d]) → ((W.alloc (.cells #[.int .u8 f, .int .u8 t, .slice a m d] 37)).drew).grownBy w2 (Value.slice aa zs.length cc).ownBlock → (v'.ownBlock = (Value.slice aa zs.length cc).ownBlock ∨ v'.ownBlock = some ((W.alloc (.cells #[.int .u8 f, .int .u8 t, .slice a m d] 37)).drew).heap.size) →
      ((w2.cell? ⟨b, 0, none⟩ = some (.slice aa zs.length cc) ∧ w2.frozen? ⟨b, 0, none⟩ = false ∧ w2.cell? ⟨w.heap.size, 0, none⟩ = some (.int .u8 f) ∧ w2.cell? ⟨w.heap.size, 1, none⟩ = some (.int .u8 t) ∧ w2.cell? ⟨w.heap.size, 2, none⟩ = some (.slice a m d)) ∧ ∃ a' c', v' = .slice a' (zs.length + 1) c') ∧
      Hid (∃ u, R3 (w2.setCell ⟨b, 0, none⟩ v') b u room (zs ++ [(Lv.mk f t a m d)]) ∧ Upd (Of b (.slice aa zs.length cc)) w (w2.setCell ⟨b, 0, none⟩ v') ∧ (u.ownBlock = (Value.slice aa zs.length cc).ownBlock ∨ ∃ g, u.ownBlock = some g ∧ w.heap.size ≤ g)) := by
    intro v' w2 ho hg hat
    have hU : Upd (fun k => (Value.slice aa zs.length cc).ownBlock = some k) W w2 := ((Upd.refl _ W).alloc _).drew.trans (Upd.of_grown hg) (fun _ _ h => h)
    have hb2 : w2.heap[b]? = some (.cells #[.slice aa zs.length cc, .int .i64 room] 129 (0, 0)) := hU.heap hbW hne
    have hne2 := own_block_ne ho hb2 (by decide)
    have k0 := blk_cell hb2 0
    have f0 := blk_frozen hb2 0
    simp at k0
    have hsl : ∃ a' c', v' = .slice a' (zs.length + 1) c' := by
      rcases ho.2 with ⟨_, h0⟩ | ⟨g, cap, cur, rfl, _⟩
      · omega
      · exact ⟨_, _, rfl⟩
    have hbx3 : w2.heap[w.heap.size]? = some (.cells #[.int .u8 f, .int .u8 t, .slice a m d] 37 (0, 0)) := hU.heap hbx2 (fun h => by have := hlt _ (.inr h); omega)
    have X3 := fun j => blk_cell hbx3 j
    refine ⟨⟨⟨k0, f0, by simpa using X3 0, by simpa using X3 1, by simpa using X3 2⟩, hsl⟩, v', ⟨?_, ?_⟩, ?_, ?_⟩
    · have := blk_set hb2 0 v'
      simpa using this
    · rw [List.length_append, cellsOf_append, cellsOf_one]
      exact ownsRow_setCell_far ho _ _ hne2
    · refine ((U1.trans U2 (fun _ _ h => h)).mono (fun _ _ h => h.elim)).trans (hU.mono (fun _ _ h => .inr h) |>.setCell _ _ (fun _ => .inl rfl)) (fun _ _ h => h)
    · rcases hat with e | e
      · exact .inl e
      · exact .inr ⟨_, e, by show w.heap.size ≤ (W.alloc (.cells #[.int .u8 f, .int .u8 t, .slice a m d] 37)).heap.size; rw [World.size_alloc]; omega⟩
  have HF := Lib.hid FIN
  have SA : ((W.alloc (.cells #[.int .u8 f, .int .u8 t, .slice a m d] 37)).drew).cell? ⟨b, 0, none⟩ = some (.slice aa zs.length cc) ∧ ((W.alloc (.cells #[.int .u8 f, .int .u8 t, .slice a m d] 37)).drew).frozen? ⟨b, 0, none⟩ = false ∧ ((W.alloc (.cells #[.int .u8 f, .int .u8 t, .slice a m d] 37)).drew).cell? ⟨w.heap.size, 0, none⟩ = some (.int .u8 f) ∧ ((W.alloc (.cells #[.int .u8 f, .int .u8 t, .slice a m d] 37)).drew).cell? ⟨w.heap.size, 1, none⟩ = some (.int .u8 t) ∧ ((W.alloc (.cells #[.int .u8 f, .int .u8 t, .slice a m d] 37)).drew).cell? ⟨w.heap.size, 2, none⟩ = some (.slice a m d) :=
    ⟨Lib.cell?_alloc_some _ h0, blk_frozen (blk_alloc hbW _) 0, Lib.cell?_alloc_some _ x0, Lib.cell?_alloc_some _ x1, Lib.cell?_alloc_some _ x2⟩
  have HSA := Lib.hid SA
  clear SA
  have hlen : zs.length + 1 ≤ 10000 := by omega
  have HzW := Lib.hid hzW
  have HW1 := Lib.hid hW1
  clear hown hne hbW hA2 hbx2 hA hbx FIN hlt X hzW hW1 hz1'
  go_wp2_with fail
  go_region_law
    (first
      | (refine step_append_at3 rfl (.tmp 24) (.tmp 26) 127 rfl 0 37 i0 (.agg #[.int .u8 0, .int .u8 0, .slice none 0 0]) 3 32 Tryd.underlying127 hi0 hz0 hz1 hz2 rfl (by decide) _ zs.length _ rfl (HOWN.out) _ 1 1 [.int .u8 f, .int .u8 t, .slice a m d] rfl rfl (fun j u hu => news_new W #[.int .u8 f, .int .u8 t, .slice a m d] 37 j u hu) (by simp [Value.oneCell']) (by unfold maxLen; omega) (by omega) (Nat.zero_le _) ?_; intro v' w2 hown' hgrow' hat'; obtain ⟨s2, ⟨a', c', rfl⟩⟩ := (HF.out v' w2 hown' hgrow' (hat'.imp id (fun e => e))).1; have F2 := (HF.out _ w2 hown' hgrow' (hat'.imp id (fun e => e))).2; obtain ⟨k2, l2, _⟩ := s2; clear hown' hgrow' hat'))
  all_goals
    go_wp2
    go_ret
    exact ⟨rfl, Hid.out (by assumption)⟩


theorem own_cell3 {base : Nat} {w : World} {g cap : Nat} {zs : List (Lv)} (h : w.ownsRow base 37 3 (.slice (some ⟨g, 0, none⟩) zs.length cap) zs.length (cellsOf enc3 zs)) {i : Nat} {x : Lv} (hx : zs[i]? = some x) (j : Nat) (hj : j < 3) : w.cell? ⟨g, i * 3 + j, none⟩ = (enc3 x)[j]? := by
  rcases h.2 with ⟨h', _⟩ | ⟨g', cap', cur, hv, hbase, hcur, hnc, hcm, hsz, htake⟩
  · cases h'
  simp only [Value.slice.injEq, Option.some.injEq, Addr.mk.injEq, and_true, true_and] at hv
  obtain ⟨rfl, rfl⟩ := hv
  have hi : i < zs.length := (List.getElem?_eq_some_iff.1 hx).1
  have := cellsOf_at enc3 3 enc3_len zs i j x hx hj
  rw [blk_cell hcur, ← this, ← htake, List.getElem?_take, if_pos (by omega)]
  simp

set_option maxHeartbeats 1000000 in
theorem rAt_in (b : Nat) (v : Value) (room : Int) (zs : List (Lv)) (i : Nat) (f t : Int) (a : Option Addr) (m d : Nat) (w : World) (h : R3 w b v room zs) (hr : 0 < room) (hx : zs[i]? = some (Lv.mk f t a m d)) (hz : zs.length ≤ 10000) :
    Calls Tryd.prog 56 #[.pointer (some ⟨b, 0, none⟩), .int .i64 i] w fun e w' => e = .returned (.tuple #[.agg #[.int .u8 f, .int .u8 t, .slice a m d], .int .i64 0]) ∧ Below w.heap.size w w' := by
  obtain ⟨w2, hw2⟩ : ∃ w2, (w.alloc (.cells #[.int .u8 0, .int .u8 0, .slice none 0 0] 37)).alloc (.cells #[.int .u8 0, .int .u8 0, .slice none 0 0] 37) = w2 := ⟨_, rfl⟩
  have hB : Below w.heap.size w w2 := by rw [← hw2]; exact ((Below.refl _ w).alloc (Nat.le_refl _) _).alloc (by simp) _
  have hA : R3 w2 b v room zs := h.upd (Upd.of_below hB (fun _ => False)) (fun _ _ h => h)
  have hb1 : w2.heap[w.heap.size]? = some (.cells #[.int .u8 0, .int .u8 0, .slice none 0 0] 37 (0, 0)) := by rw [← hw2]; exact blk_alloc (heap_alloc_new w _) _
  have hi : i < zs.length := (List.getElem?_eq_some_iff.1 hx).1
  obtain ⟨g, cap, rfl, _, _⟩ := hA.2.form (by omega)
  have C := fun j hj => own_cell3 hA.2 hx j hj
  have y0 := C 0 (by decide)
  have y1 := C 1 (by decide)
  have y2 := C 2 (by decide)
  simp [enc3] at y0 y1 y2
  have h0 := RA.c0 hA
  have h1 := RA.c1 hA
  have fb := fun j => blk_frozen hb1 j
  have Z := fun j => blk_cell hb1 j
  have z0 := Z 0
  have q0 := fb 0
  have z1 := Z 1
  have q1 := fb 1
  have z2 := Z 2
  have q2 := fb 2
  simp at z0 z1 z2
  have hi0 : ¬ (i : Int) < 0 := by omega
  have hil : (i : Int) < (zs.length : Int) := by omega
  have HB1 := Lib.hid hb1
  clear h hA hx C Z hb1 fb
  go_enter Tryd.func56, Tryd.ntmps56
  go_wp2_with (go_at_call 54; (try rw [hw2]); refine (rGood_yes _ _ hr _ h1).mono ?_; rintro e w' ⟨rfl, rfl⟩)
  have s := (blk_set (blk_set (blk_set HB1.out 0 (.int .u8 f)) 1 (.int .u8 t)) 2 (.slice a m d))
  simp at s
  have e0 := blk_cell s 0
  have e1 := blk_cell s 1
  have e2 := blk_cell s 2
  simp at e0 e1 e2
  exact bodyPost_ret (v := .tuple #[.agg #[.int .u8 f, .int .u8 t, .slice a m d], .int .i64 0]) (by simp [results, Tryd.results56, go_sem, e0, e1, e2]) rfl ⟨rfl, (((hB.setCell (p := ⟨w.heap.size, 0, none⟩) (Nat.le_refl _) _).setCell (p := ⟨w.heap.size, 1, none⟩) (Nat.le_refl _) _).setCell (p := ⟨w.heap.size, 2, none⟩) (Nat.le_refl _) _)⟩

set_option maxHeartbeats 1000000 in
theorem rAt_out (b : Nat) (v : Value) (room : Int) (zs : List (Lv)) (i : Int) (w : World) (h : R3 w b v room zs) (hr : 0 < room) (hi : i < 0 ∨ (zs.length : Int) ≤ i) (hz : zs.length ≤ 10000) :
    Calls Tryd.prog 56 #[.pointer (some ⟨b, 0, none⟩), .int .i64 i] w fun e w' => e = .returned (.tuple #[.agg #[.int .u8 0, .int .u8 0, .slice none 0 0], .int .i64 7]) ∧ Below w.heap.size w w' := by
  obtain ⟨w2, hw2⟩ : ∃ w2, (w.alloc (.cells #[.int .u8 0, .int .u8 0, .slice none 0 0] 37)).alloc (.cells #[.int .u8 0, .int .u8 0, .slice none 0 0] 37) = w2 := ⟨_, rfl⟩
  have hB : Below w.heap.size w w2 := by rw [← hw2]; exact ((Below.refl _ w).alloc (Nat.le_refl _) _).alloc (by simp) _
  have hA : R3 w2 b v room zs := h.upd (Upd.of_below hB (fun _ => False)) (fun _ _ h => h)
  have hb1 : w2.heap[w.heap.size]? = some (.cells #[.int .u8 0, .int .u8 0, .slice none 0 0] 37 (0, 0)) := by rw [← hw2]; exact blk_alloc (heap_alloc_new w _) _
  have hb2 : w2.heap[w.heap.size + 1]? = some (.cells #[.int .u8 0, .int .u8 0, .slice none 0 0] 37 (0, 0)) := by rw [← hw2]; have := heap_alloc_new (w.alloc (.cells #[.int .u8 0, .int .u8 0, .slice none 0 0] 37)) (.cells #[.int .u8 0, .int .u8 0, .slice none 0 0] 37); rwa [World.size_alloc] at this
  obtain ⟨aa, cc, rfl, hnc, hcm⟩ := RA.slice hA
  have h0 := RA.c0 hA
  have h1 := RA.c1 hA
  have fb := fun j => blk_frozen hb1 j
  have Z := fun j => blk_cell hb1 j
  have Y := fun j => blk_cell hb2 j
  have z0 := Z 0
  have q0 := fb 0
  have z1 := Z 1
  have q1 := fb 1
  have z2 := Z 2
  have q2 := fb 2
  simp at z0 z1 z2
  have w0 := Y 0
  have w1 := Y 1
  have w2 := Y 2
  simp at w0 w1 w2
  have HB1 := Lib.hid hb1
  clear h hA Z Y hb1 hb2 fb
  by_cases hneg : i < 0
  all_goals
    have hge : ¬ i < 0 → (zs.length : Int) ≤ i := fun h => hi.resolve_left h
    have HGE := Lib.hid hge
    clear hge
    (try (have hge2 := HGE.out hneg))
    clear hi
    go_enter Tryd.func56, Tryd.ntmps56
    go_wp2_with (go_at_call 54; (try rw [hw2]); refine (rGood_yes _ _ hr _ h1).mono ?_; rintro e w' ⟨rfl, rfl⟩)
    have s := (blk_set (blk_set (blk_set HB1.out 0 (.int .u8 0)) 1 (.int .u8 0)) 2 (.slice none 0 0))
    simp at s
    have e0 := blk_cell s 0
    have e1 := blk_cell s 1
    have e2 := blk_cell s 2
    simp at e0 e1 e2
    exact bodyPost_ret (v := .tuple #[.agg #[.int .u8 0, .int .u8 0, .slice none 0 0], .int .i64 7]) (by simp [results, Tryd.results56, go_sem, e0, e1, e2]) rfl ⟨rfl, (((hB.setCell (p := ⟨w.heap.size, 0, none⟩) (Nat.le_refl _) _).setCell (p := ⟨w.heap.size, 1, none⟩) (Nat.le_refl _) _).setCell (p := ⟨w.heap.size, 2, none⟩) (Nat.le_refl _) _)⟩


set_option maxHeartbeats 1600000 in
theorem rDelete (base g n cap i : Nat) (xs : List Value) (w : World) (hown : w.ownsRow base 37 3 (.slice (some ⟨g, 0, none⟩) n cap) n xs) (hone : ∀ u ∈ xs, u.oneCell' = true) (hi : i < n) :
    Calls Tryd.prog 57 #[.slice (some ⟨g, 0, none⟩) n cap, .int .i64 i, .int .i64 ((i : Int) + 1)] w fun e w' => e = .returned (.slice (some ⟨g, 0, none⟩) (n - 1) cap) ∧
      w'.ownsRow base 37 3 (.slice (some ⟨g, 0, none⟩) (n - 1) cap) (n - 1) (xs.take (i * 3) ++ xs.drop ((i + 1) * 3)) ∧ w.grownBy w' (some g) := by
  obtain ⟨i0, hi0, hz0, hz1, hz2⟩ := info_parts Tryd.infoE3
  have hlen := hown.1
  rcases hown.2 with ⟨h', _⟩ | ⟨g', cap', cur, hv, hbase, hcur, hnc, hcm, hsz, htake⟩
  · cases h'
  simp only [Value.slice.injEq, Option.some.injEq, Addr.mk.injEq, and_true, true_and] at hv
  obtain ⟨rfl, rfl⟩ := hv
  simp only [maxLen] at hcm
  obtain ⟨news, hnews⟩ : ∃ news, news = xs.drop ((i + 1) * 3) := ⟨_, rfl⟩
  obtain ⟨hnl, hfit, hlen1, hfit2, hlen2, hres⟩ := delete_row cur.toList [.int .u8 0, .int .u8 0, .slice none 0 0] news xs n i 3 cap ((i + (n - (i + 1))) * 3) htake (by simpa using hsz) hnc hi hnews (congrArg (· * 3) (by omega : i + (n - (i + 1)) = n - 1)) rfl
  obtain ⟨oA, hA, hsrc⟩ : ∃ oA : Nat, (if cap = i + 1 then some (⟨g, 0, none⟩ : Addr) else some ⟨g, (i + 1) * 3, none⟩) = some ⟨g, oA, none⟩ ∧ Hid (∀ t u, news[t]? = some u → w.drew.cell? ((⟨g, oA, none⟩ : Addr).add t) = some u) := by
    by_cases h : cap = i + 1
    · refine ⟨0, by simp [h], fun t u hu => ?_⟩
      have h0 : news.length = 0 := by rw [hnl]; have : n - (i + 1) = 0 := by omega
                                      rw [this]
      rw [List.length_eq_zero_iff.1 h0] at hu
      simp at hu
    · refine ⟨(i + 1) * 3, by simp [h], fun t u hu => ?_⟩
      rw [Addr.add_lit]
      show w.cell? _ = _
      rw [blk_cell hcur, ← hu, hnews, List.getElem?_drop, ← htake, List.getElem?_take]
      have ht : t < news.length := (List.getElem?_eq_some_iff.1 hu).1
      rw [if_pos (by omega)]
      simp
  have s1 : Hid (news.length = (n - (i + 1)) * 3) := hnl
  have s2 : Hid (∀ u ∈ news, u.oneCell' = true) := fun u hu => hone u (by rw [hnews] at hu; exact List.mem_of_mem_drop hu)
  obtain ⟨W1, hW1⟩ : ∃ W1, W1 = w.drew.setRow g (cur.toList.take (i * 3) ++ news ++ cur.toList.drop (i * 3 + news.length)).toArray := ⟨_, rfl⟩
  have hW := Lib.hid hW1
  have hcur1 : W1.heap[g]? = some (.cells (cur.toList.take (i * 3) ++ news ++ cur.toList.drop (i * 3 + news.length)).toArray 37 (0, 0)) := by rw [hW1]; exact setRow_heap w.drew g cur _ 37 _ hcur
  have hU1 : Upd (fun k => some g = some k) w W1 := by rw [hW1]; exact upd_setRow ((Upd.refl _ w).drew) g _ (fun _ => rfl)
  obtain ⟨cur2, hcl, hL, hR⟩ : ∃ cur2 : Array Value, (∀ ty c, (Builtin.clear_ #[127] ty #[.slice (some ⟨g, (i + (n - (i + 1))) * 3, none⟩) (n - (i + (n - (i + 1)))) c]).run Tryd.prog W1 = .ok (.tuple #[]) (W1.setRow g cur2)) ∧
      cur2.size = cap * 3 ∧ cur2.toList.take ((n - 1) * 3) = xs.take (i * 3) ++ xs.drop ((i + 1) * 3) :=
    ⟨_, fun ty c => run_clear_row W1 127 37 ty (.agg #[.int .u8 0, .int .u8 0, .slice none 0 0]) [.int .u8 0, .int .u8 0, .slice none 0 0] (by simp [Builtin.zeroCells, Value.cells]; rfl) Tryd.underlying127 Tryd.zeroE3 (by simp [Value.oneCell']) g _ _ c (by omega) _ hcur1 (by rw [List.size_toArray, hlen1]; exact hfit2),
      by rw [List.size_toArray]; exact hlen2, by rw [List.toList_toArray, ← hnews]; exact hres⟩
  have HL := Lib.hid hL
  have HR := Lib.hid hR
  clear hW1 hnews hlen2 hres hnl hL hR hlen1
  have hic : i ≤ cap := by omega
  have hjc : i + 1 ≤ cap := by omega
  have hp0 : (0 : Int) ≤ (i : Int) + 1 := by omega
  have hp1 : (i : Int) + 1 ≤ (n : Int) := by omega
  have hfit' : i * 3 + news.length ≤ cur.size := by rw [hsz]; exact hfit
  clear hfit
  go_enter Tryd.func57, Tryd.ntmps57
  go_wp2_with fail
  go_region_law (refine step_append_row rfl (.tmp 22) (.tmp 25) 127 rfl 37 i0 3 Tryd.underlying127 hi0 hz1 g i cap cur (by simp [Act.eval, Act.put]) hcur ⟨g, oA, none⟩ (n - (i + 1)) (cap - (i + 1)) news (by simp [Act.eval, Act.put]) s1.out hsrc.out s2.out (by omega) hfit' ?_; rw [← hW.out])
  go_wp2
  go_ret
  have e : i + (n - (i + 1)) = n - 1 := by omega
  refine ⟨by rw [e]; rfl, ⟨?_, .inr ⟨g, cap, cur2, rfl, hbase, setRow_heap W1 g _ _ 37 _ hcur1, by omega, by unfold maxLen; omega, HL.out, HR.out⟩⟩, ?_⟩
  · rw [← HR.out, List.length_take, Array.length_toList, HL.out]
    exact Nat.min_eq_left (Nat.mul_le_mul_right _ (by omega))
  · have := upd_setRow hU1 g cur2 (fun _ => rfl)
    exact ⟨this.os, this.tape, this.output, this.size, fun k hk hn => this.block k hk (fun h => hn h.symm)⟩


set_option maxHeartbeats 1000000 in
theorem rDrop_out (b : Nat) (v : Value) (room : Int) (zs : List (Lv)) (i : Int) (w : World) (h : R3 w b v room zs) (hr : 0 < room) (hi : i < 0 ∨ (zs.length : Int) ≤ i) (hz : zs.length ≤ 10000) :
    Calls Tryd.prog 35 #[.pointer (some ⟨b, 0, none⟩), .int .i64 i] w fun e w' => e = .returned (.int .i64 7) ∧ Below w.heap.size w w' := by
  have hc := Lib.hid (rAt_out b v room zs i w h hr hi hz)
  clear h hi
  go_enter Tryd.func35, Tryd.ntmps35
  go_wp2_with (go_at_call 56; refine hc.out.mono ?_; rintro e w2 ⟨rfl, hB⟩)
  go_ret
  exact ⟨rfl, hB.alloc hB.size _⟩

set_option maxHeartbeats 1600000 in
theorem rDrop (b : Nat) (v : Value) (room : Int) (zs : List (Lv)) (i : Nat) (w : World) (h : R3 w b v room zs) (hr : 0 < room) (hi : i < zs.length) (hz : zs.length ≤ 10000) :
    Calls Tryd.prog 35 #[.pointer (some ⟨b, 0, none⟩), .int .i64 i] w fun e w' => e = .returned (.int .i64 0) ∧
      ∃ v', R3 w' b v' room (zs.eraseIdx i) ∧ Upd (Of b v) w w' ∧ v'.ownBlock = v.ownBlock := by
  obtain ⟨p, hx⟩ : ∃ p, zs[i]? = some p := ⟨zs[i], List.getElem?_eq_getElem hi⟩
  obtain ⟨f, t, a, m, d⟩ := p
  have hc := Lib.hid (rAt_in b v room zs i f t a m d w h hr hx hz)
  have hin : (i : Int) < (zs.length : Int) := by omega
  have hres := Lib.hid (cellsOf_erase enc3 3 enc3_len zs i)
  have HL := Lib.hid (List.length_eraseIdx_of_lt hi)
  have H := Lib.hid h
  clear h hx
  go_enter Tryd.func35, Tryd.ntmps35
  go_wp2_with fail
  refine hc.out.mono ?_
  rintro e w1 ⟨rfl, hB1⟩
  obtain ⟨w2, hw2⟩ : ∃ w2, w1.alloc (.cells #[.int .u8 f, .int .u8 t, .slice a m d] 37) = w2 := ⟨_, rfl⟩
  have hB : Below w.heap.size w w2 := by rw [← hw2]; exact hB1.alloc hB1.size _
  have hA : R3 w2 b v room zs := H.out.upd (Upd.of_below hB (fun _ => False)) (fun _ _ h => h)
  have hb := hA.1
  obtain ⟨g, cap, rfl, _, hg⟩ := hA.2.form (by omega)
  have hne := own_block_ne hA.2 hb (by decide)
  have hgb : g ≠ b := fun e => hne (by rw [e]; rfl)
  have hd := Lib.hid (rDelete 0 g zs.length cap i _ w2 hA.2 (enc3_one zs) hi)
  have h0 := RA.c0 hA
  have f0 := RA.f0 hA
  have HB := Lib.hid hb
  clear hA hne hb
  go_wp2_with fail
  refine hd.out.mono ?_
  rintro e w3 ⟨rfl, hown2, hgrow⟩
  have hU : Upd (fun k => some g = some k) w2 w3 := Upd.of_grown hgrow
  have hb2 := hU.heap HB.out (by simpa using hgb)
  have hne2 := own_block_ne hown2 hb2 (by decide)
  have k0 := blk_cell hb2 0
  have f02 := blk_frozen hb2 0
  simp at k0
  go_wp2
  go_ret
  refine ⟨rfl, .slice (some ⟨g, 0, none⟩) (zs.length - 1) cap, ⟨?_, ?_⟩, (Upd.of_below hB _).trans ((hU.mono fun k _ h => .inr h).setCell _ _ (fun _ => .inl rfl)) (fun _ _ h => h), rfl⟩
  · have := blk_set hb2 0 (.slice (some ⟨g, 0, none⟩) (zs.length - 1) cap)
    simpa using this
  · rw [HL.out, ← hres.out]
    exact ownsRow_setCell_far hown2 _ _ hne2


end Go.Proofs.YtehgbpepaakanaaDoor
