/-
  The law of air: a slice of acts that came in; how the law's loops stand.
-/
import Derived.Test.YtehgbpepaakanaaA5
namespace Go.Proofs.Ytehgbpepaakanaa
open Go.RowKit Go.Joins
set_option linter.unusedVariables false
set_option linter.unusedSimpArgs false

theorem BR.ownlt {w : World} {a : Option Addr} {m d : Nat} {bs : List Int} (h : BR w a m d bs) (hd : d ≠ 0) {g : Nat} (hg : (Value.slice a m d).ownBlock = some g) : g < w.heap.size := by
  rcases h with ⟨_, h0, _⟩ | ⟨b, off, rfl, hlt, _⟩
  · exact absurd h0 hd
  · have : b = g := by simpa [Value.ownBlock] using hg
    subst this; exact hlt

/-- An act that came in. -/
structure Ac where
  k : Int
  f : Int
  t : Nat
  a : Option Addr
  m : Nat
  d : Nat
  bs : List Int
  i : Int
  pl : Nat
  z : Int
def Acts (w : World) (a : Option Addr) (xs : List Ac) : Prop :=
  xs = [] ∨ ∃ b off, a = some ⟨b, off, none⟩ ∧ b < w.heap.size ∧ ∀ (j : Nat) (x : Ac), xs[j]? = some x →
    (w.cell? ⟨b, off + j * 7, none⟩ = some (.int .u8 x.k) ∧ w.cell? ⟨b, off + j * 7 + 1, none⟩ = some (.int .u8 x.f) ∧ w.cell? ⟨b, off + j * 7 + 2, none⟩ = some (.int .u8 x.t) ∧ w.cell? ⟨b, off + j * 7 + 3, none⟩ = some (.slice x.a x.m x.d) ∧ w.cell? ⟨b, off + j * 7 + 4, none⟩ = some (.int .i64 x.i) ∧ w.cell? ⟨b, off + j * 7 + 5, none⟩ = some (.int .u16 x.pl) ∧ w.cell? ⟨b, off + j * 7 + 6, none⟩ = some (.int .u8 x.z)) ∧ BR w x.a x.m x.d x.bs ∧ x.t ≤ 255 ∧ x.pl < 65536
theorem Acts.below {w w' : World} {a : Option Addr} {xs : List Ac} (h : Acts w a xs) (hb : Below w.heap.size w w') : Acts w' a xs := by
  rcases h with h | ⟨b, off, rfl, hlt, hc⟩
  · exact .inl h
  · refine .inr ⟨b, off, rfl, Nat.lt_of_lt_of_le hlt hb.size, fun j x hx => ?_⟩
    obtain ⟨⟨h0, h1, h2, h3, h4, h5, h6⟩, h7, h8⟩ := hc j x hx
    have cc : ∀ o, w'.cell? ⟨b, o, none⟩ = w.cell? ⟨b, o, none⟩ := fun o => hb.cell (p := ⟨b, o, none⟩) hlt
    exact ⟨⟨(cc _).trans h0, (cc _).trans h1, (cc _).trans h2, (cc _).trans h3, (cc _).trans h4, (cc _).trans h5, (cc _).trans h6⟩, h7.below hb, h8⟩
theorem Acts.get {w : World} {a : Option Addr} {xs : List Ac} (h : Acts w a xs) {j : Nat} {x : Ac} (hx : xs[j]? = some x) : ∃ b off, a = some ⟨b, off, none⟩ ∧
    (w.cell? ⟨b, off + j * 7, none⟩ = some (.int .u8 x.k) ∧ w.cell? ⟨b, off + j * 7 + 1, none⟩ = some (.int .u8 x.f) ∧ w.cell? ⟨b, off + j * 7 + 2, none⟩ = some (.int .u8 x.t) ∧ w.cell? ⟨b, off + j * 7 + 3, none⟩ = some (.slice x.a x.m x.d) ∧ w.cell? ⟨b, off + j * 7 + 4, none⟩ = some (.int .i64 x.i) ∧ w.cell? ⟨b, off + j * 7 + 5, none⟩ = some (.int .u16 x.pl) ∧ w.cell? ⟨b, off + j * 7 + 6, none⟩ = some (.int .u8 x.z)) ∧ BR w x.a x.m x.d x.bs ∧ x.t ≤ 255 ∧ x.pl < 65536 := by
  rcases h with rfl | ⟨b, off, rfl, _, hc⟩
  · simp at hx
  · exact ⟨b, off, rfl, hc j x hx⟩

/-- Len of air, any end. -/
theorem prog_len {N : Nat → Prop} {w : World} {A : Nat} {room : Int} {st : Nat → List Lt} (t : Nat) (h : AirHi N w A room st) (ht2 : t ≤ 255) :
    Calls Try.prog 13 #[.pointer (some ⟨A, 0, none⟩), .int .u8 t] w fun e w' => e = .returned (.int .i64 ((if t < 17 then (st t).length else 0 : Nat) : Nat)) ∧ w = w' := by
  by_cases ht : t < 17
  · rw [if_pos ht]; exact len_hi t h ht
  · rw [if_neg ht]
    obtain ⟨P, h1, h2, h3, hr, hr2⟩ := id h
    exact aLen_arg P A room st t w h1 (by omega) ht2
theorem Tie.lens {st : Nat → List Lt} {xs : List LX} (h : Tie st xs) (t : Nat) : (toEnd t xs).length = if t < 17 then (st t).length else 0 := by
  by_cases ht : t < 17
  · rw [if_pos ht, h.len ht]
  · rw [if_neg ht]
    rw [List.length_eq_zero_iff]
    unfold toEnd
    rw [List.filter_eq_nil_iff]
    intro x hx
    have := (h.2 x hx).2.1
    simp
    omega

/-- How the law's loops stand. -/
def LoopAt (w : World) (A mB : Nat) (room : Int) (c : Nat) (wr : World) : Prop :=
  ∃ N NR st al nl cl xl, (∀ q, q < w.heap.size → NR q) ∧ (∀ q, NR q → N q) ∧ N mB ∧ ¬ NR mB ∧ AirHi N wr A room st ∧ Good st ∧ RLN NR wr al nl cl xl ∧ (∀ x ∈ xl, x.ok) ∧ Tie st xl ∧ nl ≤ c ∧ wr.heap[mB]? = some (.cells #[.slice al nl cl, .int .i64 room] 38 (0, 0)) ∧ w.heap.size ≤ mB ∧ Below w.heap.size w wr

theorem LoopAt.below {w w' wr : World} {A mB : Nat} {room : Int} {c c' : Nat} (h : LoopAt w A mB room c wr) (hb : Below wr.heap.size wr w') (hc : c ≤ c') : LoopAt w A mB room c' w' := by
  obtain ⟨N, NR, st, al, nl, cl, xl, hw0, hNR, hNm, hNRm, hA, hg, hR, hok, hT, hnl, hm, hmw, hB⟩ := h
  exact ⟨N, NR, st, al, nl, cl, xl, hw0, hNR, hNm, hNRm, hA.below hb, hg, hR.below hb, hok, hT, by omega, (hb.block _ (lt_of_heap hm)).trans hm, hmw, hB.trans (hb.mono hB.size)⟩

/-- .. with the next letters in a box of their own, not yet taken over. -/
def NextAt (w : World) (A mB : Nat) (room : Int) (c g : Nat) (wr : World) : Prop :=
  ∃ N NR st al nl cl xl v0, (∀ q, q < w.heap.size → NR q) ∧ (∀ q, NR q → N q) ∧ N mB ∧ ¬ NR mB ∧ AirHi N wr A room st ∧ Good st ∧ RLN NR wr al nl cl xl ∧ (∀ x ∈ xl, x.ok) ∧ Tie st xl ∧ nl ≤ c ∧ wr.heap[mB]? = some (.cells #[v0, .int .i64 room] 38 (0, 0)) ∧ wr.heap[g]? = some (.cells #[.slice al nl cl, .int .i64 room] 38 (0, 0)) ∧ g ≠ mB ∧ w.heap.size ≤ mB ∧ Below w.heap.size w wr

/-- All letters. -/
def tot (st : Nat → List Lt) : Nat := ((List.range 17).map fun i => (st i).length).sum
theorem sum_add (f g : Nat → Nat) (l : List Nat) : (l.map fun i => f i + g i).sum = (l.map f).sum + (l.map g).sum := by
  induction l with
  | nil => rfl
  | cons a r ih => simp only [List.map_cons, List.sum_cons, ih]; omega
theorem one_of_17 : ∀ t, t < 17 → ((List.range 17).map fun i => if t = i then 1 else 0).sum = 1 := by decide
theorem tot_ends (xs : List LX) (h : ∀ x ∈ xs, x.ok) : ((List.range 17).map fun i : Nat => (toEnd i xs).length).sum = xs.length := by
  induction xs with
  | nil => rfl
  | cons x r ih =>
    have hx := h x (by simp)
    obtain ⟨t, ht⟩ := Int.eq_ofNat_of_zero_le hx.1
    have ht17 : t < 17 := by have := hx.2.1; omega
    have e : (fun i : Nat => (toEnd i (x :: r)).length) = fun i : Nat => (toEnd i r).length + if t = i then 1 else 0 := by
      funext i
      by_cases e : t = i
      · subst e; simp [toEnd, ht]
      · have : ¬ x.lv.t = (i : Int) := by omega
        simp [toEnd, this, e]
    rw [e, sum_add, ih (fun y hy => h y (by simp [hy])), one_of_17 t ht17]
    rfl
theorem Tie.total {st : Nat → List Lt} {xs : List LX} (h : Tie st xs) : xs.length = tot st := by
  rw [← tot_ends xs h.2, tot]
  congr 1
  apply List.map_congr_left
  intro i hi
  rw [h.len (List.mem_range.1 hi)]
theorem sum_lt (f g : Nat → Nat) (l : List Nat) (h : ∀ i ∈ l, f i ≤ g i) (j : Nat) (hj : j ∈ l) (hlt : f j < g j) : (l.map f).sum < (l.map g).sum := by
  induction l with
  | nil => cases hj
  | cons a r ih =>
    simp only [List.map_cons, List.sum_cons]
    have hle : ∀ l : List Nat, (∀ i ∈ l, f i ≤ g i) → (l.map f).sum ≤ (l.map g).sum := by
      intro l hl
      induction l with
      | nil => exact Nat.le_refl _
      | cons b q ihq => simp only [List.map_cons, List.sum_cons]; have := hl b (by simp); have := ihq (fun i hi => hl i (by simp [hi])); omega
    have ha := h a (by simp)
    rcases List.mem_cons.1 hj with rfl | hj
    · have := hle r (fun i hi => h i (by simp [hi])); omega
    · have := ih (fun i hi => h i (by simp [hi])) hj; omega
theorem tot_take (st : Nat → List Lt) (t : Nat) (ht : t < 17) (l : List Lt) (hl : l.length < (st t).length) : tot (upd st t l) < tot st := by
  refine sum_lt _ _ _ (fun i _ => ?_) t (List.mem_range.2 ht) (by rw [upd_same]; exact hl)
  by_cases e : i = t
  · subst e; rw [upd_same]; omega
  · rw [upd_other _ _ e]; exact Nat.le_refl _

/-- What does leaves. -/
def Done (N NR M : Nat → Prop) (A : Nat) (room : Int) (nl : Nat) (w' : World) (a' : Option Addr) (n' c' : Nat) (w5 : World) : Prop :=
  ∃ N' NR' st' xl', (∀ q, N q ∨ M q → N' q) ∧ AirHi N' w5 A room st' ∧ Good st' ∧ RLN NR' w5 a' n' c' xl' ∧ (∀ q, NR' q → N' q ∧ (NR q ∨ w'.heap.size ≤ q)) ∧ (∀ q, NR q → NR' q) ∧ Kept (fun q => N q ∨ M q) w' w5 ∧ n' ≤ nl + 1 ∧ (∀ x ∈ xl', x.ok) ∧ Tie st' xl'

theorem Done.box {N NR : Nat → Prop} {A : Nat} {room : Int} {nl : Nat} {w4 : World} {cs : Array Value} {a' : Option Addr} {n' c' : Nat} {w5 : World} (h : Done N NR (fun q => q = w4.heap.size) A room nl ((w4.alloc (.cells cs 38)).drew) a' n' c' w5) : w5.heap[w4.heap.size]? = some (.cells cs 38 (0, 0)) := by
  obtain ⟨N', NR', st', xl', h1, h2, h3, h4, h5, h5', h6, h7⟩ := h
  exact h6.heap (heap_alloc_new w4 (.cells cs 38)) (.inr rfl)

theorem does_done (N NR : Nat → Prop) (hNR : ∀ q, NR q → N q) (A : Nat) (al : Option Addr) (nl cl : Nat) (room : Int) (k f : Int) (t : Nat) (a : Option Addr) (m d : Nat) (bs : List Int) (i : Int) (pl : Nat) (z : Int) (w : World) (st : Nat → List Lt) (xs : List LX)
    (h : AirHi N w A room st) (hg : Good st) (hR : RLN NR w al nl cl xs) (hok : ∀ x ∈ xs, x.ok) (hT : Tie st xs) (hcap : nl ≤ 10000) (ht2 : t ≤ 255) (hpl : pl < 65536) (hbs : BR w a m d bs) (hbN : d ≠ 0 → ∀ g, (Value.slice a m d).ownBlock = some g → NR g)
    (w' : World) (M : Nat → Prop) (hb : Below w.heap.size w w') (hM : ∀ q, M q → w.heap.size ≤ q ∧ q < w'.heap.size) :
    Calls Try.prog 15 #[.pointer (some ⟨A, 0, none⟩), .agg #[.slice al nl cl, .int .i64 room], .agg #[.int .u8 k, .int .u8 f, .int .u8 t, .slice a m d, .int .i64 i, .int .u16 pl, .int .u8 z]] w' fun e w5 => ∃ a' n' c', e = .returned (.tuple #[.agg #[.slice a' n' c', .int .i64 room], .bool true]) ∧ n' = tot (upd st t (stepL room k f t (st t) bs i pl z)) ∧ Done N NR M A room nl w' a' n' c' w5 := by
  refine (does_is (fun q => N q ∨ M q) NR (fun q hq => .inl (hNR q hq)) A al nl cl room room k f t a m d bs i pl z w' st xs (h.add hb M hM) hg (hR.below hb) hok hcap ht2 hpl (hbs.below hb) hbN).mono ?_
  rintro e w5 ⟨a', n', c', r, rfl, N', NR', xl', hN', hA5, hR5, hNR5, hNR6, hK5, hn5, hok5, hTie⟩
  obtain ⟨rfl, hT5⟩ := hTie rfl hT
  exact ⟨a', n', c', rfl, hR5.1.1.symm.trans hT5.total, N', NR', _, xl', hN', hA5, hg.step _ _ _ _ _ _ _ _, hR5, hNR5, hNR6, hK5, hn5, hok5, hT5⟩

theorem Done.after {w w4 w5 wd wx : World} {N NR M : Nat → Prop} {A mB : Nat} {room : Int} {nl : Nat} {a' : Option Addr} {n' c' g j : Nat} {v : Value} (h : Done N NR M A room nl wd a' n' c' w5) (hd : Below w4.heap.size w4 wd) (hw0 : ∀ q, q < w.heap.size → NR q) (hNR : ∀ q, NR q → N q) (hNm : N mB) (hNRm : ¬ NR mB) (hN : ∀ q, N q → q < w4.heap.size)
    (hm : w4.heap[mB]? = some (.cells #[v, .int .i64 room] 38 (0, 0))) (hmw : w.heap.size ≤ mB) (hB : Below w.heap.size w w4) (hnl : nl ≤ j) (hg : w4.heap.size ≤ g) (hU : Upd (fun q => q = g) w5 wx) (hgN : (g < w5.heap.size → M g) ∧ (g < w5.heap.size → g < wd.heap.size)) (hgx : wx.heap[g]? = some (.cells #[.slice a' n' c', .int .i64 room] 38 (0, 0))) : NextAt w A mB room (j + 1) g wx := by
  obtain ⟨N', NR', st', xl', h1, h2, h3, h4, h5, h5', h6, h7, h8, h9⟩ := h
  have hmB := lt_of_heap hm
  have hds := hd.size
  have h2lt := h2.lt
  have hgN' : ∀ q, q = g → q < w5.heap.size → N' q := fun q e hl => by subst e; exact h1 _ (.inr (hgN.1 hl))
  have hNR'g : ∀ q, NR' q → ¬ q = g := by
    intro q hq e
    subst e
    have hl := h2lt q (h5 q hq).1
    rcases (h5 q hq).2 with h | h
    · have := hN q (hNR q h); omega
    · have := hgN.2 hl; omega
  have hA : AirHi N' wx A room st' := by
    obtain ⟨P, ⟨b, v, L, k1, k2, k3⟩, k4, k5, k6⟩ := h2
    refine ⟨Blocks A b v L, ⟨b, v, L, k1.keep hU (fun q hq e => ?_), fun _ h => h, k3⟩, fun q hq hn => k4 q (k2 q hq) hn, fun q hq => Nat.lt_of_lt_of_le (k5 q hq) hU.size, k6⟩
    exact k4 q (k2 q hq) (hgN' q e (k1.lt hq))
  have hm5 : w5.heap[mB]? = some (.cells #[v, .int .i64 room] 38 (0, 0)) := h6.heap ((hd.block _ hmB).trans hm) (.inl hNm)
  have hBd : Below w.heap.size w wd := hB.trans (hd.mono hB.size)
  have hB5 : Below w.heap.size w w5 := hBd.trans (h6.below hBd.size (fun q hq => .inl (hNR q (hw0 q hq))))
  have hws := hB.size
  refine ⟨N', NR', st', _, _, _, xl', v, fun q hq => h5' q (hw0 q hq), fun q hq => (h5 q hq).1, h1 _ (.inl hNm), fun hq => ?_, hA, h3, h4.upd hU hNR'g, h8, h9, by omega, hU.heap hm5 (by omega), hgx, by omega, hmw, hU.onto hB5 hB5.size (fun q hq => by omega)⟩
  rcases (h5 _ hq).2 with h | h
  · exact hNRm h
  · omega

theorem Done.after_b {w w4 w5 : World} {N NR : Nat → Prop} {A mB : Nat} {room : Int} {nl : Nat} {a' : Option Addr} {n' c' j : Nat} {v : Value} (h : Done N NR (fun _ => False) A room nl w4.drew a' n' c' w5) (hw0 : ∀ q, q < w.heap.size → NR q) (hNR : ∀ q, NR q → N q) (hNm : N mB) (hNRm : ¬ NR mB) (hN : ∀ q, N q → q < w4.heap.size)
    (hm : w4.heap[mB]? = some (.cells #[v, .int .i64 room] 38 (0, 0))) (hmw : w.heap.size ≤ mB) (hB : Below w.heap.size w w4) (hnl : nl ≤ j) : NextAt w A mB room (j + 1) w5.heap.size (w5.alloc (.cells #[.slice a' n' c', .int .i64 room] 38)) := by
  have hs : w4.heap.size ≤ w5.heap.size := by
    obtain ⟨N', NR', st', xl', h1, h2, h3, h4, h5, h5', h6, h7, h8, h9⟩ := h
    exact h6.size
  exact h.after (Below.refl _ w4).drew hw0 hNR hNm hNRm hN hm hmw hB hnl hs ((Upd.refl _ w5).alloc _) ⟨fun h => by omega, fun h => by omega⟩ (heap_alloc_new w5 _)
theorem Done.after_a {w w4 w5 : World} {N NR : Nat → Prop} {A mB : Nat} {room : Int} {nl : Nat} {a' : Option Addr} {n' c' j : Nat} {v : Value} (h : Done N NR (fun q => q = w4.heap.size) A room nl ((w4.alloc (.cells #[.slice none 0 0, .int .i64 0] 38)).drew) a' n' c' w5) (hw0 : ∀ q, q < w.heap.size → NR q) (hNR : ∀ q, NR q → N q) (hNm : N mB) (hNRm : ¬ NR mB) (hN : ∀ q, N q → q < w4.heap.size)
    (hm : w4.heap[mB]? = some (.cells #[v, .int .i64 room] 38 (0, 0))) (hmw : w.heap.size ≤ mB) (hB : Below w.heap.size w w4) (hnl : nl ≤ j) : NextAt w A mB room (j + 1) w4.heap.size ((w5.setCell ⟨w4.heap.size, 0, none⟩ (.slice a' n' c')).setCell ⟨w4.heap.size, 1, none⟩ (.int .i64 room)) := by
  have hb := h.box
  have hb2 := blk_set (blk_set hb 0 (.slice a' n' c')) 1 (.int .i64 room)
  simp at hb2
  exact h.after (((Below.refl _ w4).alloc (Nat.le_refl _) _).drew) hw0 hNR hNm hNRm hN hm hmw hB hnl (Nat.le_refl _) (((Upd.refl (fun q => q = w4.heap.size) w5).setCell ⟨w4.heap.size, 0, none⟩ _ (fun _ => rfl)).setCell ⟨w4.heap.size, 1, none⟩ _ (fun _ => rfl)) ⟨fun _ => rfl, fun _ => (by simp)⟩ hb2

theorem NextAt.take {w wc : World} {A mB g c : Nat} {room : Int} (h : NextAt w A mB room c g wc) : ∃ al nl cl v0, wc.heap[mB]? = some (.cells #[v0, .int .i64 room] 38 (0, 0)) ∧ wc.heap[g]? = some (.cells #[.slice al nl cl, .int .i64 room] 38 (0, 0)) ∧ LoopAt w A mB room c ((wc.setCell ⟨mB, 0, none⟩ (.slice al nl cl)).setCell ⟨mB, 1, none⟩ (.int .i64 room)) ∧ ((wc.setCell ⟨mB, 0, none⟩ (.slice al nl cl)).setCell ⟨mB, 1, none⟩ (.int .i64 room)).heap[mB]? = some (.cells #[.slice al nl cl, .int .i64 room] 38 (0, 0)) ∧ g ≠ mB := by
  obtain ⟨N, NR, st, al, nl, cl, xl, v0, hw0, hNR, hNm, hNRm, hA, hg, hR, hok, hT, hnl, hm, hgx, hgm, hmw, hB⟩ := h
  have hU : Upd (fun q => q = mB) wc ((wc.setCell ⟨mB, 0, none⟩ (.slice al nl cl)).setCell ⟨mB, 1, none⟩ (.int .i64 room)) := ((Upd.refl (fun q => q = mB) wc).setCell ⟨mB, 0, none⟩ _ (fun _ => rfl)).setCell ⟨mB, 1, none⟩ _ (fun _ => rfl)
  have hm2 := blk_set (blk_set hm 0 (.slice al nl cl)) 1 (.int .i64 room)
  simp at hm2
  exact ⟨al, nl, cl, v0, hm, hgx, ⟨N, NR, st, al, nl, cl, xl, hw0, hNR, hNm, hNRm, hA.keepN hU (fun q e => e ▸ hNm), hg, hR.upd hU (fun q hq e => hNRm (e ▸ hq)), hok, hT, hnl, hm2, hmw, hU.onto hB hB.size (fun q e => by omega)⟩, hm2, hgm⟩

theorem LoopAt.lens {w w7 : World} {A mB c : Nat} {room : Int} {al : Option Addr} {nl cl : Nat} (h : LoopAt w A mB room c w7) (hm : w7.heap[mB]? = some (.cells #[.slice al nl cl, .int .i64 room] 38 (0, 0))) (t : Nat) (ht2 : t ≤ 255) :
    ∃ l : Nat, (∀ w', Below w7.heap.size w7 w' → Calls Try.prog 13 #[.pointer (some ⟨A, 0, none⟩), .int .u8 t] w' fun e w'' => e = .returned (.int .i64 l) ∧ w' = w'') ∧
      (∀ w', Below w7.heap.size w7 w' → Calls Try.prog 16 #[.agg #[.slice al nl cl, .int .i64 room], .int .u8 t] w' fun e w'' => e = .returned (.int .i64 l) ∧ Below w7.heap.size w7 w'') := by
  obtain ⟨N, NR, st, al', nl', cl', xl, hw0, hNR, hNm, hNRm, hA, hg, hR, hok, hT, hnl, hm', hmw, hB⟩ := h
  rw [hm] at hm'
  simp at hm'
  obtain ⟨rfl, rfl, rfl⟩ := hm'
  refine ⟨if t < 17 then (st t).length else 0, fun w' hb => prog_len t (hA.below hb) ht2, fun w' hb => ?_⟩
  refine (refLen al nl cl xl room t w' (hR.1.below hb)).mono ?_
  rintro e w'' ⟨rfl, hB2⟩
  exact ⟨by rw [hT.lens t], hb.trans (hB2.mono hb.size)⟩

theorem NextAt.less {w wc : World} {A mB g c c' : Nat} {room : Int} {a' : Option Addr} {n1 c1 : Nat} (h : NextAt w A mB room c g wc) (hg : wc.heap[g]? = some (.cells #[.slice a' n1 c1, .int .i64 room] 38 (0, 0))) (hn : n1 ≤ c') : NextAt w A mB room c' g wc := by
  obtain ⟨N, NR, st, al, nl, cl, xl, v0, hw0, hNR, hNm, hNRm, hA, hg', hR, hok, hT, hnl, hm, hgx, hgm, hmw, hB⟩ := h
  rw [hg] at hgx
  simp at hgx
  obtain ⟨rfl, rfl, rfl⟩ := hgx
  exact ⟨N, NR, st, _, _, _, xl, v0, hw0, hNR, hNm, hNRm, hA, hg', hR, hok, hT, hn, hm, hg, hgm, hmw, hB⟩
/-- How many letters there are in the box. -/
def nOf (w : World) (mB : Nat) : Nat := match w.cell? ⟨mB, 0, none⟩ with
  | some (.slice _ n _) => n
  | _ => 0

end Go.Proofs.Ytehgbpepaakanaa
