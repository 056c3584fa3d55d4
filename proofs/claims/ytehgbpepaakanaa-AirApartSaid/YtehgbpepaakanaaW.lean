/-
  The reference of air: Again.
-/
import Derived.Test.YtehgbpepaakanaaV
namespace Go.Proofs.Ytehgbpepaakanaa
open Go.RowKit Go.Joins
set_option linter.unusedVariables false
set_option linter.unusedSimpArgs false

/-- Take answers an error c. -/
def TakeErr (w : World) (al : Option Addr) (nl cl : Nat) (room t i c : Int) : Prop := ∀ w1, Below w.heap.size w w1 → Calls Try.prog 27 #[.agg #[.slice al nl cl, .int .i64 room], .int .u8 t, .int .i64 i] w1 fun e w' => e = .returned (.tuple #[.agg #[.slice al nl cl, .int .i64 room], .agg #[.int .u8 0, .int .u8 0, .slice none 0 0], .int .i64 c]) ∧ Below w1.heap.size w1 w'

theorem two_box (w : World) (A B : Array Value) (tA tB : TypeId) : ∃ w2, (w.alloc (.cells A tA)).alloc (.cells B tB) = w2 ∧ w2.heap[w.heap.size]? = some (.cells A tA (0, 0)) ∧ w2.heap[w.heap.size + 1]? = some (.cells B tB (0, 0)) ∧ Below w.heap.size w w2 := by
  have h1 := heap_alloc_new w (.cells A tA)
  have h2 := heap_alloc_new (w.alloc (.cells A tA)) (.cells B tB)
  rw [World.size_alloc] at h2
  exact ⟨_, rfl, blk_alloc h1 _, h2, ((Below.refl _ w).alloc (Nat.le_refl _) _).alloc (by simp) _⟩

set_option maxHeartbeats 1000000 in
theorem refAgain_err (room t i c : Int) (w : World) (hc : c ≠ 0) (al : Option Addr) (nl cl : Nat) (hT : TakeErr w al nl cl room t i c) :
    Calls Try.prog 28 #[.agg #[.slice al nl cl, .int .i64 room], .int .u8 t, .int .i64 i] w fun e w' => e = .returned (.tuple #[.agg #[.slice al nl cl, .int .i64 room], .int .i64 c]) ∧ Below w.heap.size w w' := by
  obtain ⟨w2, hw2, b1, b2, hB⟩ := two_box w #[.slice al nl cl, .int .i64 room] #[.slice none 0 0, .int .i64 0] 38 38
  have HT := Lib.hid (hT w2 hB)
  have H1 := Lib.hid b1
  have H2 := Lib.hid b2
  have HW := Lib.hid hw2
  clear hT b1 b2 hw2
  have hcb : (c != 0) = true := by simpa using hc
  go_enter Try.func28, Try.ntmps28
  go_wp2_with fail
  rw [HW.out]
  refine HT.out.mono ?_
  rintro e w3 ⟨rfl, hB3⟩
  obtain ⟨w4, hw4, ha4, hb4, hB4⟩ := two_box w3 #[.slice al nl cl, .int .i64 room] #[.int .u8 0, .int .u8 0, .slice none 0 0] 38 48
  have hm1 := H1.out
  have hm2 := H2.out
  have c1 := (hB3.block _ (lt_of_heap hm1)).trans hm1
  have c2 := (hB3.block _ (lt_of_heap hm2)).trans hm2
  have c1' := (hB4.block _ (lt_of_heap c1)).trans c1
  have c2' := (hB4.block _ (lt_of_heap c2)).trans c2
  have x0 := blk_cell c1' 0
  have x1 := blk_cell c1' 1
  have y0 := blk_cell c2' 0
  have y1 := blk_cell c2' 1
  have f0 := blk_frozen c2' 0
  have f1 := blk_frozen c2' 1
  simp at x0 x1 y0 y1
  have HW4 := Lib.hid hw4
  have C2 := Lib.hid c2'
  clear hm1 hm2 c1 c2 c1' c2' hw4 ha4 hb4
  go_upto_region 2 with fail
  rw [HW4.out]
  go_wp2_with fail
  have s1 := blk_set (blk_set C2.out 0 (.slice al nl cl)) 1 (.int .i64 room)
  simp at s1
  have e0 := blk_cell s1 0
  have e1 := blk_cell s1 1
  simp at e0 e1
  have hB3' := hB.trans (hB3.mono hB.size)
  have hB4' := hB3'.trans (hB4.mono hB3'.size)
  exact bodyPost_ret (v := .tuple #[.agg #[.slice al nl cl, .int .i64 room], .int .i64 c]) (by simp [results, Try.results28, go_sem, e0, e1]) rfl ⟨rfl, (hB4'.setCell (p := ⟨w.heap.size + 1, 0, none⟩) (Nat.le_succ _) _).setCell (p := ⟨w.heap.size + 1, 1, none⟩) (Nat.le_succ _) _⟩

/-- .. and all blocks that are read lie in N. -/
def RLN (N : Nat → Prop) (w : World) (a : Option Addr) (n cap : Nat) (xs : List LX) : Prop := RL w a n cap xs ∧ (∀ p, a = some p → N p.block) ∧ ∀ x ∈ xs, x.lv.d ≠ 0 → ∀ g, x.blk = some g → N g
/-- N and all that was made between w and w'. -/
def Nx (N : Nat → Prop) (w w' : World) : Nat → Prop := fun k => N k ∨ (w.heap.size ≤ k ∧ k < w'.heap.size)
theorem Nx.same {N : Nat → Prop} {w w' : World} {k : Nat} (h : N k) : Nx N w w' k := .inl h
theorem RLN.mono {N N' : Nat → Prop} {w : World} {a : Option Addr} {n cap : Nat} {xs : List LX} (h : RLN N w a n cap xs) (hn : ∀ k, N k → N' k) : RLN N' w a n cap xs := ⟨h.1, fun p hp => hn _ (h.2.1 p hp), fun x hx hd g hg => hn _ (h.2.2 x hx hd g hg)⟩
theorem RLN.below {N : Nat → Prop} {w w' : World} {a : Option Addr} {n cap : Nat} {xs : List LX} (h : RLN N w a n cap xs) (hb : Below w.heap.size w w') : RLN N w' a n cap xs := ⟨h.1.below hb, h.2⟩
theorem cell_block {w w' : World} {p : Addr} (h : w'.heap[p.block]? = w.heap[p.block]?) : w'.cell? p = w.cell? p := by simp only [World.cell?, h]
theorem BR.block {a : Option Addr} {m d : Nat} {bs : List Int} {w w' : World} (h : BR w a m d bs) (hb : d ≠ 0 → ∀ g, (Value.slice a m d).ownBlock = some g → g < w.heap.size → w'.heap[g]? = w.heap[g]?) (hs : w.heap.size ≤ w'.heap.size) : BR w' a m d bs := by
  rcases h with h | ⟨b, off, rfl, hlt, h1, h2, h3, h4⟩
  · exact .inl h
  · by_cases hd : d = 0
    · have hm : m = 0 := by omega
      exact .inl ⟨hm, hd, List.length_eq_zero_iff.1 (h1.trans hm)⟩
    · exact .inr ⟨b, off, rfl, Nat.lt_of_lt_of_le hlt hs, h1, h2, h3, fun j x hx => (cell_block (hb hd b rfl hlt)).trans (h4 j x hx)⟩
/-- Where only blocks out of N are turned. -/
theorem RLN.upd {N S : Nat → Prop} {w w' : World} {a : Option Addr} {n cap : Nat} {xs : List LX} (h : RLN N w a n cap xs) (hu : Upd S w w') (hn : ∀ k, N k → ¬ S k) : RLN N w' a n cap xs := by
  obtain ⟨⟨h1, h2, h3, h4, h5⟩, h6, h7⟩ := h
  refine ⟨⟨h1, h2, h3, fun x hx => (h4 x hx).block (fun hd g hg hl => hu.block g hl (hn g (h7 x hx hd g hg))) hu.size, ?_⟩, h6, h7⟩
  rcases h5 with h | ⟨b, off, rfl, hlt, hc⟩
  · exact .inl h
  · have hbb : w'.heap[b]? = w.heap[b]? := hu.block b hlt (hn b (h6 _ rfl))
    exact .inr ⟨b, off, rfl, Nat.lt_of_lt_of_le hlt hu.size, fun j x hx => ⟨(cell_block (p := ⟨b, _, none⟩) hbb).trans (hc j x hx).1, (cell_block (p := ⟨b, _, none⟩) hbb).trans (hc j x hx).2.1, (cell_block (p := ⟨b, _, none⟩) hbb).trans (hc j x hx).2.2⟩⟩

/-- What the reference's Send, Again and Turn answer: letters, and a code. -/
def RO (N : Nat → Prop) (w : World) (room k : Int) (xs : List LX) (e : Ending) (w' : World) : Prop :=
  ∃ a n c, e = .returned (.tuple #[.agg #[.slice a n c, .int .i64 room], .int .i64 k]) ∧ RLN (Nx N w w') w' a n c xs ∧ Below w.heap.size w w'

def sendK (room : Int) (xs : List LX) (x : LX) : Int := if 17 ≤ x.lv.f ∨ 17 ≤ x.lv.t then 2 else if 4000 < x.lv.m then 3 else if room ≤ ((toEnd x.lv.t xs).length : Int) then 6 else 0
def sendX (room : Int) (xs : List LX) (x : LX) : List LX := if sendK room xs x = 0 then xs ++ [x] else xs

theorem refSend (N : Nat → Prop) (room : Int) (al : Option Addr) (nl cl : Nat) (xs : List LX) (x : LX) (w : World) (hR : RLN N w al nl cl xs) (hx : BR w x.lv.a x.lv.m x.lv.d x.bs) (hxN : x.lv.d ≠ 0 → ∀ g, x.blk = some g → N g) (hcap : nl ≤ 10000) :
    Calls Try.prog 30 #[.agg #[.slice al nl cl, .int .i64 room], .agg #[.int .u8 x.lv.f, .int .u8 x.lv.t, .slice x.lv.a x.lv.m x.lv.d]] w (RO N w room (sendK room xs x) (sendX room xs x)) := by
  obtain ⟨⟨f, t, a, m, d⟩, bs⟩ := x
  simp only at hx ⊢
  unfold sendX
  by_cases h1 : 17 ≤ f ∨ 17 ≤ t
  · have hk : sendK room xs ⟨⟨f, t, a, m, d⟩, bs⟩ = 2 := if_pos h1
    rw [hk, if_neg (by decide)]
    refine (refSend_arg room f t a m d w (by omega) al nl cl).mono ?_
    rintro e w' ⟨rfl, hB⟩
    exact ⟨_, _, _, rfl, (hR.below hB).mono (fun k h => .inl h), hB⟩
  · by_cases h2 : 4000 < m
    · have hk : sendK room xs ⟨⟨f, t, a, m, d⟩, bs⟩ = 3 := by simp [sendK, h1, h2]
      rw [hk, if_neg (by decide)]
      refine (refSend_big room f t a m d w (by omega) (by omega) h2 al nl cl).mono ?_
      rintro e w' ⟨rfl, hB⟩
      exact ⟨_, _, _, rfl, (hR.below hB).mono (fun k h => .inl h), hB⟩
    · by_cases h3 : room ≤ ((toEnd t xs).length : Int)
      · have hk : sendK room xs ⟨⟨f, t, a, m, d⟩, bs⟩ = 6 := by simp [sendK, h1, h2, h3]
        rw [hk, if_neg (by decide)]
        refine (refSend_full room f t a m d w (by omega) (by omega) (by omega) al nl cl xs hR.1 h3).mono ?_
        rintro e w' ⟨rfl, hB⟩
        exact ⟨_, _, _, rfl, (hR.below hB).mono (fun k h => .inl h), hB⟩
      · have hk : sendK room xs ⟨⟨f, t, a, m, d⟩, bs⟩ = 0 := by simp [sendK, h1, h2, h3]
        rw [hk, if_pos rfl]
        refine (refSend_ok room f t a m d w (by omega) (by omega) (by omega) al nl cl xs hR.1 (by omega) bs hx hcap).mono ?_
        rintro e w' ⟨a', c', rfl, hR', hF, hB⟩
        refine ⟨_, _, _, rfl, ⟨hR', fun p hp => .inr (hF p hp), fun y hy hd g hg => ?_⟩, hB⟩
        · rcases List.mem_append.1 hy with hy | hy
          · exact .inl (hR.2.2 y hy hd g hg)
          · obtain rfl := List.mem_singleton.1 hy
            exact .inl (hxN hd g hg)

set_option maxHeartbeats 1000000 in
/-- Again, of a letter that is there. -/
theorem refAgain_ok (N : Nat → Prop) (room t i : Int) (w : World) (hN : ∀ k, N k → k < w.heap.size) (h : t < 17) (al : Option Addr) (nl cl : Nat) (xs : List LX) (hR : RLN N w al nl cl xs) (k : Nat) (x : LX) (hk : xs[k]? = some x) (hkt : x.lv.t = t) (hi : ((toEnd t (xs.take k)).length : Int) = i) (hcap : nl ≤ 10000) :
    Calls Try.prog 28 #[.agg #[.slice al nl cl, .int .i64 room], .int .u8 t, .int .i64 i] w (RO N w room (sendK room xs x) (sendX room xs x)) := by
  subst hkt
  obtain ⟨w2, hw2, b1, b2, hB⟩ := two_box w #[.slice al nl cl, .int .i64 room] #[.slice none 0 0, .int .i64 0] 38 38
  have hxm := List.mem_of_getElem? hk
  have hR2 := hR.below hB
  have HT := Lib.hid (refTake_ok room x.lv.t i w2 h al nl cl xs hR2.1 k x hk rfl hi hcap)
  have HS : Hid (∀ w', Below w2.heap.size w2 w' → Calls Try.prog 30 #[.agg #[.slice al nl cl, .int .i64 room], .agg #[.int .u8 x.lv.f, .int .u8 x.lv.t, .slice x.lv.a x.lv.m x.lv.d]] w' (RO N w' room (sendK room xs x) (sendX room xs x))) := fun w' hb => refSend N room al nl cl xs x w' (hR2.below hb) ((hR2.1.2.2.2.1 x hxm).below hb) (hR2.2.2 x hxm) hcap
  have H1 := Lib.hid b1
  have H2 := Lib.hid b2
  have HW := Lib.hid hw2
  clear hR hR2 b1 b2 hw2
  go_enter Try.func28, Try.ntmps28
  go_wp2_with fail
  rw [HW.out]
  refine HT.out.mono ?_
  rintro e w3 ⟨a3, n3, c3, rfl, -, -, hB3⟩
  obtain ⟨w4, hw4, ha4, hb4, hB4⟩ := two_box w3 #[.slice a3 n3 c3, .int .i64 room] #[.int .u8 x.lv.f, .int .u8 x.lv.t, .slice x.lv.a x.lv.m x.lv.d] 38 48
  have hs4 := hb4
  have hm1 := H1.out
  have hm2 := H2.out
  have c1 := (hB3.block _ (lt_of_heap hm1)).trans hm1
  have c2 := (hB3.block _ (lt_of_heap hm2)).trans hm2
  have c1' := (hB4.block _ (lt_of_heap c1)).trans c1
  have c2' := (hB4.block _ (lt_of_heap c2)).trans c2
  have x0 := blk_cell c1' 0
  have x1 := blk_cell c1' 1
  have z0 := blk_cell hb4 0
  have z1 := blk_cell hb4 1
  have z2 := blk_cell hb4 2
  simp at x0 x1 z0 z1 z2
  have HW4 := Lib.hid hw4
  have C2 := Lib.hid c2'
  clear hm1 hm2 c1 c2 c1' c2' hw4 ha4 hb4
  go_upto_region 2 with fail
  rw [HW4.out]
  go_wp2_with fail
  have hB24 := hB3.trans (hB4.mono hB3.size)
  refine (HS.out w4 hB24).mono ?_
  rintro e w5 ⟨a5, n5, c5, rfl, hR5, hB5⟩
  have hm2 := (hB5.block _ (lt_of_heap C2.out)).trans C2.out
  have y0 := blk_cell hm2 0
  have y1 := blk_cell hm2 1
  have f0 := blk_frozen hm2 0
  have f1 := blk_frozen hm2 1
  simp at y0 y1
  have M2 := Lib.hid hm2
  clear hm2
  go_wp2_with fail
  have s1 := blk_set (blk_set M2.out 0 (.slice a5 n5 c5)) 1 (.int .i64 room)
  simp at s1
  have e0 := blk_cell s1 0
  have e1 := blk_cell s1 1
  simp at e0 e1
  have hBw4 := hB.trans (hB24.mono hB.size)
  have hBw5 := hBw4.trans (hB5.mono hBw4.size)
  have hU : Upd (fun q => q = w.heap.size + 1) w5 ((w5.setCell ⟨w.heap.size + 1, 0, none⟩ (.slice a5 n5 c5)).setCell ⟨w.heap.size + 1, 1, none⟩ (.int .i64 room)) := ((Upd.refl (fun q => q = w.heap.size + 1) w5).setCell ⟨w.heap.size + 1, 0, none⟩ _ (fun _ => rfl)).setCell ⟨w.heap.size + 1, 1, none⟩ _ (fun _ => rfl)
  refine bodyPost_ret (v := .tuple #[.agg #[.slice a5 n5 c5, .int .i64 room], .int .i64 (sendK room xs x)]) (by simp [results, Try.results28, go_sem, e0, e1]) rfl ⟨a5, n5, c5, rfl, ?_, (hBw5.setCell (p := ⟨w.heap.size + 1, 0, none⟩) (Nat.le_succ _) _).setCell (p := ⟨w.heap.size + 1, 1, none⟩) (Nat.le_succ _) _⟩
  have hlt := lt_of_heap C2.out
  refine (hR5.upd hU ?_).mono ?_
  · rintro q (hq | hq) rfl
    · have := hN _ hq; omega
    · omega
  · rintro q (hq | hq)
    · exact .inl hq
    · exact .inr ⟨by have := hBw4.size; omega, Nat.lt_of_lt_of_le hq.2 hU.size⟩

end Go.Proofs.Ytehgbpepaakanaa
