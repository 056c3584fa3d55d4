/-
  RingThrough: the walk.
-/
import Derived.Test.YthehhnlkpcfofaaDrops
import Derived.Maps.OwnIn
import Derived.Deep.CutRange
namespace Go.Proofs.Ythehhnlkpcfofaa
open Go.RowKit Go.Shelf
set_option linter.unusedVariables false
set_option linter.unusedSimpArgs false

attribute [local go_sem] Oper.semAt_some

/-- The law with the round's frame left open. -/
theorem wp_rangeFunc_U2 {P : Program} {α : Type} {g : Operand} {ps : Array Tmp} {assign body : Code} {Q : Exit → Act → World → Prop} {a : Act} {w : World}
    {gf : Nat} {lb : Array Value} (hg : a.eval g = .func (.func gf) #[] lb) (eg : ∀ args w, (callFunc gf args).run P w = .ok (.enter gf args) w)
    {encs : α → Array Value} {S : Nat → Prop} {m : Nat} {zs : List α} {w0 : World} (hseq : SeqU Fence.wide 8 P gf lb encs S m zs w0)
    (hw : Keeps S w0 w) (hS0 : ∀ k, S k → k < w0.heap.size) (hps : ∀ x, (encs x).size = ps.size)
    (I : List α → World → Prop) (Ix : Code → List α → World → Prop)
    (hI : ∀ s A A', I s A → Upd (Mine w.heap.size (m + 2)) A A' → I s A') (hIx : ∀ c s A A', Ix c s A → Upd (Mine w.heap.size (m + 2)) A A' → Ix c s A') (h0 : I [] w)
    (hround : ∀ x, ∃ a' : Act, ∀ (l : Nat), (∀ (W : World) (K : Act → World → Prop), K a' W →
        assign.wpIn (Fence.wide.inRound l) 7 P (Exit.then K (fun _ _ _ => False)) { tmps := (ps.zip (encs x)).foldl (fun t (p, v) => t.setIfInBounds p v) a.tmps, defers := [] } W) ∧
      ∀ (pre : List α) (W : World), I pre W → pre ++ [x] <+: zs → w.heap.size + (m + 2) ≤ W.heap.size →
        body.wpIn (Fence.wide.inRound l) 7 P (postU (fun k => S k ∨ Mine w.heap.size (m + 2) k) I Ix (pre ++ [x]) W) a' W)
    (hdone : ∀ (W : World), I zs W → W.heap[w.heap.size]? = some (.deferred (some [])) → Q .normal { a with defers := { target := .collected w.heap.size, args := #[] } :: a.defers } W)
    (hstop : ∀ (c : Code) (pre : List α) (W : World), pre <+: zs → Ix c pre W → W.heap[w.heap.size]? = some (.deferred (some [])) → c.wp P Q { a with defers := { target := .collected w.heap.size, args := #[] } :: a.defers } W) :
    (Code.rangeFunc g ps assign body).wp P Q a w :=
  wp_rangeFunc_U hg eg hseq hw hS0 hps I Ix hI hIx h0 (fun x => Classical.choose (hround x)) (fun l x W K hK => (Classical.choose_spec (hround x) l).1 W K hK)
    (fun l pre x W h1 h2 h3 => (Classical.choose_spec (hround x) l).2 pre W h1 h2 h3) hdone hstop

theorem _root_.List.IsPrefix.getElem?_eq_some {α : Type} {ys zs : List α} (h : ys <+: zs) {j : Nat} {y : α} (hy : ys[j]? = some y) : zs[j]? = some y := by
  obtain ⟨t, rfl⟩ := h
  rw [List.getElem?_append_left (List.getElem?_eq_some_iff.1 hy).1]; exact hy

theorem RI.not_of {A : World} {b : Nat} {v : Value} {room : Int} {zs : List Int} (h : RI A b v room zs) {k : Nat} {cs : Array Value} {t : TypeId} (hk : A.heap[k]? = some (.cells cs t (0, 0))) (h72 : (72 : Nat) ≠ t) (h2 : (2 : Nat) ≠ t) : ¬ Of b v k := by
  rintro (rfl | hv)
  · have := h.1.symm.trans hk
    simp at this
    exact h72 this.2
  · exact own_block_ne h.2 hk h2 hv

/-- The variables of RingThrough ahead of its loop over All. -/
structure Thr0 (w : World) (g5 b : Nat) (sl : Value) (stop : Int) (A : World) : Prop where
  bl : A.heap[w.heap.size]? = some (.cells #[sl] 22 (0, 0))
  bs : A.heap[w.heap.size + 1]? = some (.cells #[.int .u8 stop] 5 (0, 0))
  br : A.heap[w.heap.size + 1 + 1]? = some (.cells #[.bool false] 4 (0, 0))
  b5 : A.heap[g5]? = some (.cells #[.pointer (some ⟨b, 0, none⟩)] 25 (0, 0))
  below : Below w.heap.size w A

theorem Thr0.upd {w : World} {g5 b : Nat} {sl : Value} {stop : Int} {A A' : World} (h : Thr0 w g5 b sl stop A) (h5 : w.heap.size ≤ g5) {S : Nat → Prop} (hu : Upd S A A') (hS : ∀ k, S k → w.heap.size ≤ k) (h0 : ¬ S w.heap.size) (h1 : ¬ S (w.heap.size + 1)) (h2 : ¬ S (w.heap.size + 1 + 1)) (h3 : ¬ S g5) : Thr0 w g5 b sl stop A' :=
  ⟨hu.heap h.bl h0, hu.heap h.bs h1, hu.heap h.br h2, hu.heap h.b5 h3, h.below.trans (hu.below h.below.size (fun i hi h => by have := hS _ h; omega))⟩

/-- .. by a turn of the ring's blocks. -/
theorem Thr0.ring {w : World} {g5 b : Nat} {sl : Value} {stop : Int} {A A' : World} (h : Thr0 w g5 b sl stop A) (h5 : w.heap.size ≤ g5) {v : Value} {room : Int} {ys : List Int} (hR : RI A b v room ys) (hH : Hi w.heap.size b v) (hu : Upd (Of b v) A A') : Thr0 w g5 b sl stop A' :=
  h.upd h5 hu hH (hR.not_of h.bl (by decide) (by decide)) (hR.not_of h.bs (by decide) (by decide)) (hR.not_of h.br (by decide) (by decide)) (hR.not_of h.b5 (by decide) (by decide))
theorem Thr0.below' {w : World} {g5 b : Nat} {sl : Value} {stop : Int} {A A' : World} (h : Thr0 w g5 b sl stop A) (h5 : w.heap.size ≤ g5) (hb : Below A.heap.size A A') : Thr0 w g5 b sl stop A' :=
  h.upd h5 (Upd.of_below hb (fun _ => False)) (fun _ h => h.elim) (fun h => h) (fun h => h) (fun h => h) (fun h => h)

/-- .. and in the loop over All: the ring (whatever it has), what was seen. -/
def Thr1 (w : World) (g5 g9 b : Nat) (sl : Value) (stop : Int) (S : Nat → Prop) (G n : Nat) (pre : List Int) (A : World) : Prop :=
  Thr0 w g5 b sl stop A ∧ ∃ v ys v2, RI A b v 10000 ys ∧ ys.length = n ∧ (∀ k, Of b v k → w.heap.size ≤ k ∧ ¬ S k ∧ ¬ Mine G 6 k) ∧
    A.heap[g9]? = some (.cells #[v2] 22 (0, 0)) ∧ A.ownsRow 0 2 1 v2 pre.length (cellsOf enc1 pre) ∧ (∀ k, v2.ownBlock = some k → w.heap.size ≤ k ∧ ¬ S k ∧ ¬ Mine G 6 k ∧ ¬ Of b v k)

theorem Thr1.mine {w : World} {g5 g9 b : Nat} {sl : Value} {stop : Int} {S : Nat → Prop} {G n : Nat} {pre : List Int} {A A' : World} (h : Thr1 w g5 g9 b sl stop S G n pre A) (h5 : w.heap.size + 3 ≤ g5) (h9 : g5 < g9) (hG : g9 < G) (hu : Upd (Mine G 6) A A') : Thr1 w g5 g9 b sl stop S G n pre A' := by
  obtain ⟨t0, v, ys, v2, hR, hy, hO, h2, hown, hO2⟩ := h
  have hm : ∀ k, k < G → ¬ Mine G 6 k := fun k hk h => by have := h.1; omega
  exact ⟨t0.upd (by omega) hu (fun k h => by have := h.1; omega) (hm _ (by omega)) (hm _ (by omega)) (hm _ (by omega)) (hm _ (by omega)), v, ys, v2, hR.upd hu (fun k hk => (hO k hk).2.2), hy, hO,
    hu.heap h2 (hm _ hG), ownsRow_upd hown hu (fun k hk => (hO2 k hk).2.2.1), hO2⟩

set_option maxRecDepth 100000 in
set_option maxHeartbeats 4000000 in
theorem ringThrough_walk (a0 : Option Addr) (len0 cap0 : Nat) (z0 : List Int) (st : Int) (w : World) (w0 : IsRow .i64 w a0 len0 cap0 z0) (ws : (Lit.int .u8 st).wf = true) :
    Calls Try.prog 4 #[.slice a0 len0 cap0, .int .u8 st] w fun e w' => e = .returned (.bool true) ∧ Below w.heap.size w w' := by
  obtain ⟨I0, L0, hl0, hm0, wf0⟩ := w0.ints
  generalize z0.take len0 = zs at *
  clear w0 wf0
  obtain ⟨hs0, hs1⟩ := bounds_u8 ws
  have hlen0 : (len0 : Int) ≤ 9223372036854775807 := by omega
  have HI0 := Lib.hid I0
  have HL0 := Lib.hid L0
  clear I0 L0 ws
  obtain ⟨w3, hw3⟩ : ∃ w3, ((w.alloc (.cells #[.slice a0 len0 cap0] 22)).alloc (.cells #[.int .u8 st] 5)).alloc (.cells #[.bool false] 4) = w3 := ⟨_, rfl⟩
  have hz3 : w3.heap.size = w.heap.size + 3 := by rw [← hw3]; simp
  have hB3 : Below w.heap.size w w3 := by rw [← hw3]; exact (((Below.refl _ w).alloc (Nat.le_refl _) _).alloc (by simp) _).alloc (by simp; omega) _
  have b0 : w3.heap[w.heap.size]? = some (.cells #[.slice a0 len0 cap0] 22 (0, 0)) := by rw [← hw3]; exact blk_alloc (blk_alloc (World.alloc_heap_new w _) _) _
  have b1 : w3.heap[w.heap.size + 1]? = some (.cells #[.int .u8 st] 5 (0, 0)) := by
    rw [← hw3]; have := World.alloc_heap_new (w.alloc (.cells #[.slice a0 len0 cap0] 22)) (.cells #[.int .u8 st] 5); rw [World.size_alloc] at this; exact blk_alloc this _
  have b2 : w3.heap[w.heap.size + 1 + 1]? = some (.cells #[.bool false] 4 (0, 0)) := by
    rw [← hw3]; have := World.alloc_heap_new ((w.alloc (.cells #[.slice a0 len0 cap0] 22)).alloc (.cells #[.int .u8 st] 5)) (.cells #[.bool false] 4); rw [World.size_alloc, World.size_alloc] at this; exact this
  have HW3 := Lib.hid hw3
  clear hw3
  refine calls_marks Try.func4 rfl ?_
  simp only [Try.ntmps4, List.size_toArray, List.length_cons, List.length_nil, Nat.reduceAdd, Nat.reduceSub, Array.replicate_succ, Array.replicate_zero, List.push_toArray, List.append_toArray, List.nil_append, List.cons_append]
  go_wp2_with fail
  rw [HW3.out]
  refine (alive_yes _).mono ?_
  rintro e wa ⟨rfl, hBa⟩
  have hza := hBa.size
  have B0a := hBa.trans (Below.refl _ _)
  go_wp2_with fail
  refine (new_ok 10000 _ (by decide) (by decide)).mono ?_
  rintro e wn ⟨rfl, hR, hBn⟩
  obtain ⟨b, hb⟩ : ∃ b, b = wa.heap.size := ⟨_, rfl⟩
  obtain ⟨g5, hg5⟩ : ∃ g5, g5 = wn.heap.size := ⟨_, rfl⟩
  have hzn := hBn.size
  have hbn := lt_of_heap hR.1
  have T0 : Thr0 w g5 b (.slice a0 len0 cap0) st (wn.alloc (.cells #[.pointer (some ⟨b, 0, none⟩)] 25)) := by
    have k : ∀ i o, i < w3.heap.size → w3.heap[i]? = some o → (wn.alloc (.cells #[.pointer (some ⟨b, 0, none⟩)] 25)).heap[i]? = some o := fun i o hi h =>
      blk_alloc ((hBn.block i (by omega)).trans ((hBa.block i hi).trans h)) _
    exact ⟨k _ _ (by omega) b0, k _ _ (by omega) b1, k _ _ (by omega) b2, by rw [hg5]; exact World.alloc_heap_new wn _,
      ((hB3.trans (hBa.mono (by omega))).trans (hBn.mono (by omega))).alloc (by omega) _⟩
  have hR0 : RI (wn.alloc (.cells #[.pointer (some ⟨b, 0, none⟩)] 25)) b (.slice none 0 0) 10000 [] := by
    rw [hb]; exact RI.upd (zs := []) hR (S := fun _ => False) ((Upd.refl _ wn).alloc _) (fun _ _ h => h)
  have hH0 : Hi w.heap.size b (.slice none 0 0) := Hi.none (by omega)
  have h5b : b < g5 := by omega
  have h5w : w.heap.size ≤ g5 := by omega
  have h5w3 : w.heap.size + 3 ≤ g5 := by omega
  have hwx := Lib.hid (rfl : wn.alloc (.cells #[.pointer (some ⟨b, 0, none⟩)] 25) = _)
  have HB := Lib.hid hb
  have HG := Lib.hid hg5
  clear hR hBn hBa B0a hza hzn hbn hb hg5
  go_upto_region 4 with fail
  rw [← HB.out, ← HG.out]
  generalize wn.alloc (.cells #[.pointer (some ⟨b, 0, none⟩)] 25) = wx at *
  clear hwx HB HG
  have cl := blk_cell T0.bl 0
  have cs := blk_cell T0.bs 0
  have cr := blk_cell T0.br 0
  have fr := blk_frozen T0.br 0
  have c5 := blk_cell T0.b5 0
  simp at cl cs cr c5
  by_cases h5 : (500 : Int) < (len0 : Int)
  · go_wp2_with fail
    have hs := blk_set T0.br 0 (.bool true)
    have hc := blk_cell hs 0
    simp at hc
    refine ⟨.bool true, ?_, rfl, ?_⟩
    · simp [results, Try.results4, go_sem, hc]
    · exact T0.below.setCell (p := ⟨w.heap.size + 1 + 1, 0, none⟩) (by show w.heap.size ≤ w.heap.size + 1 + 1; omega) _
  · go_wp2_with fail
    go_loopw [28] (fun ix wr => ∃ (k : Nat) (v : Value), k ≤ len0 ∧ ix = .int .i64 k ∧ RI wr b v 10000 (zs.take k) ∧ Hi w.heap.size b v ∧ Thr0 w g5 b (.slice a0 len0 cap0) st wr) (fun ix _ => len0 - (intOf ix).toNat)
    case atStart => exact ⟨0, _, Nat.zero_le _, rfl, hR0, hH0, T0⟩
    case round =>
      obtain ⟨k, v, hk, rfl, hR, hH, hT⟩ := hrel
      clear cl cs cr fr c5 T0 hR0 hH0
      have hBw := hT.below
      have cl := blk_cell hT.bl 0
      have c5 := blk_cell hT.b5 0
      simp at cl c5
      by_cases hlt : k < len0
      · obtain ⟨x, hx⟩ : ∃ x, zs[k]? = some x := ⟨_, List.getElem?_eq_getElem (by rw [HL0.out]; exact hlt)⟩
        obtain ⟨e0, off0, rfl, hcell⟩ := (HI0.out.below hBw).get hx
        have HX := Lib.hid (take_snoc2 zs k x hx)
        have hlen : ((zs.take k).length : Int) < 10000 := by rw [List.length_take, HL0.out]; omega
        clear hx
        go_wp2_with fail
        refine (iPush b v 10000 _ x _ hR (by decide) (by decide) hlen).mono ?_
        rintro e w1 ⟨rfl, v1, hR1, hU1, ho1⟩
        have T1 := hT.ring h5w hR hH hU1
        have H1 := hH.new hBw.size ho1
        rw [← HX.out] at hR1
        clear hR hU1 ho1 hH hcell hT hBw cl c5
        go_wp2_with fail
        go_roundw
        case rel => exact ⟨k + 1, v1, by omega, by go_num, hR1, H1, T1⟩
        case measure => simp [intOf]; omega
      · obtain rfl : k = len0 := by omega
        have hz2 : zs.take k = zs := List.take_of_length_le (by rw [HL0.out]; omega)
        rw [hz2] at hR
        have hrl : zs.length * 8 ≤ 140737488351232 := by rw [HL0.out]; omega
        clear hz2 hlt
        go_wp2_with fail
        refine (all_in b v 10000 zs hrl wr hR (by decide)).mono ?_
        rintro e w4 ⟨Bs, sv, S, rfl, hB4, hSB, hSl, hBs, hI⟩
        have hz4 := hB4.size
        have hzw := hBw.size
        have T4 := hT.below' h5w hB4
        have R4 := hR.upd (Upd.of_below hB4 (fun _ => False)) (fun _ _ h => h)
        obtain ⟨g9, hg9⟩ : ∃ g9, g9 = w4.heap.size := ⟨_, rfl⟩
        have hg5 := lt_of_heap hT.b5
        have T5 : Thr1 w g5 g9 b (.slice a0 k cap0) st S (g9 + 1) zs.length [] (w4.alloc (.cells #[.slice none 0 0] 22)) := by
          have hu : Upd (fun _ => False) w4 (w4.alloc (.cells #[.slice none 0 0] 22)) := (Upd.refl _ w4).alloc _
          refine ⟨T4.upd h5w hu (fun _ h => h.elim) (fun h => h) (fun h => h) (fun h => h) (fun h => h), v, zs, .slice none 0 0, R4.upd hu (fun _ _ h => h), rfl, fun q hq => ⟨hH q hq, fun h => ?_, fun h => ?_⟩,
            by rw [hg9]; exact World.alloc_heap_new w4 _, World.ownsRow_nil _ _ _ _, fun q hq => by simp [Value.ownBlock] at hq⟩
          · have := (hSl q h).1; have := hR.lt q hq; omega
          · have := h.1; have := hR.lt q hq; omega
        have h59 : g5 < g9 := by omega
        have HG9 := Lib.hid hg9
        have hS9 : ∀ q, S q → q < g9 := fun q h => by have := (hSl q h).2; omega
        have hI0 : SeqU Fence.wide 8 Try.prog 36 #[.pointer (some ⟨Bs, 0, none⟩)] (fun x : Int => #[Value.int .i64 x]) S 4 zs w4 :=
          all1_U Fence.wide 8 trivial trivial trivial rfl rfl (by omega) Bs S hSB sv zs hrl w4 (fun k hk => (hSl k hk).2) hBs hI
        have hK5 : Keeps S w4 (w4.alloc (.cells #[.slice none 0 0] 22)) := Keeps.of_upd (T := fun _ => False) ((Upd.refl _ w4).alloc _) (fun _ _ _ h => h)
        have hz5 : (w4.alloc (.cells #[.slice none 0 0] 22)).heap.size = g9 + 1 := by rw [World.size_alloc, hg9]
        clear hg9 hB4 hR hH T4 R4 cl c5
        go_wp2_with fail
        rw [← HG9.out]
        generalize w4.alloc (.cells #[.slice none 0 0] 22) = w5 at *
        obtain ⟨i0, hi0, hz0, hz1, hz2⟩ := info_parts Try.infoE
        refine wp_rangeFunc_U2 (gf := 36) (lb := #[.pointer (some ⟨Bs, 0, none⟩)]) rfl (enters_of Try.func36 (by kernel_rfl) rfl) hI0 hK5 (fun k hk => (hSl k hk).2) (fun _ => rfl)
          (fun pre A => Thr1 w g5 g9 b (.slice a0 k cap0) st S (g9 + 1) zs.length pre A ∧ (st = 0 ∨ (pre.length : Int) < st))
          (fun c pre A => c = .exit 2 ∧ Thr1 w g5 g9 b (.slice a0 k cap0) st S (g9 + 1) zs.length pre A ∧ (pre.length : Int) = st ∧ 0 < st) ?hI ?hIx ⟨T5, by simp; omega⟩ ?round ?done ?stop
        case hI =>
          intro s A A' hs hu
          rw [hz5] at hu
          exact ⟨hs.1.mine (by omega) h59 (by omega) hu, hs.2⟩
        case hIx =>
          intro c s A A' hs hu
          rw [hz5] at hu
          exact ⟨hs.1, hs.2.1.mine (by omega) h59 (by omega) hu, hs.2.2⟩
        case round =>
          intro x
          apply Exists.intro
          intro l
          refine ⟨?assign, ?body⟩
          case assign =>
            intro W K hK
            gi_wp2
            exact hK
          case body =>
            rintro pre A ⟨hT1, hst⟩ hpre hsz
            rw [hz5] at hsz
            obtain ⟨hx, hlt⟩ := pre_get hpre
            obtain ⟨t0, v, ys, v2, hR, hy, hO, h2, hown, hO2⟩ := hT1
            obtain ⟨a2, c2, rfl⟩ := own_slice hown
            have cl := blk_cell t0.bl 0
            have cs := blk_cell t0.bs 0
            have c5 := blk_cell t0.b5 0
            have c9 := blk_cell h2 0
            have f9 := blk_frozen h2 0
            simp at cl cs c5 c9
            have hown1 := hown.alloc (.cells #[.int .i64 x] 2)
            have hzA := hsz
            have hne9 : (Value.slice a2 pre.length c2).ownBlock ≠ some g9 := own_block_ne hown h2 (by decide)
            have hlk : pre.length < k := by rw [HL0.out] at hlt; exact hlt
            have hpl : pre.length < 500 := by omega
            obtain ⟨y, ys', rfl⟩ : ∃ y ys', ys = y :: ys' := by cases ys with
              | nil => simp at hy; omega
              | cons y ys' => exact ⟨y, ys', rfl⟩
            clear hx hlt
            gi_wp2_with (gi_at_builtin; refine wpListIn_append_own_at _ rfl (.tmp 40) (.tmp 42) 22 rfl 0 2 i0 _ 1 8 Try.underlying22 hi0 hz0 hz1 hz2 rfl (by decide) _ _ _ rfl hown1 ⟨A.heap.size, 0, none⟩ 1 1 [.int .i64 x] rfl rfl ?c1 ?c2 ?c3 ?c4 (Nat.zero_le _) ?_)
            case c1 => exact cell_one_new A _ _
            case c2 => intro u hu; simp at hu; subst hu; rfl
            case c3 => unfold maxLen; omega
            case c4 => omega
            intro v3 w1 hown3 hgrow _ hat
            have hU1 : Upd (fun k => (Value.slice a2 pre.length c2).ownBlock = some k) A w1 := ((Upd.refl _ A).alloc _).trans (Upd.of_grown hgrow) (fun _ _ h => h)
            obtain ⟨g3, c3, rfl, _, hg3⟩ := hown3.form (by omega)
            have h91 := hU1.heap h2 hne9
            have hne91 := own_block_ne hown3 h91 (by decide)
            have T1 : Thr0 w g5 b (.slice a0 k cap0) st w1 := t0.upd h5w hU1 (fun q hq => (hO2 q hq).1) (own_block_ne hown t0.bl (by decide)) (own_block_ne hown t0.bs (by decide)) (own_block_ne hown t0.br (by decide)) (own_block_ne hown t0.b5 (by decide))
            have R1 := hR.upd hU1 (fun q hq e => (hO2 q e).2.2.2 hq)
            have hzU1 := hU1.size
            have hO3 : ∀ q, (Value.slice (some ⟨g3, 0, none⟩) (pre.length + 1) c3).ownBlock = some q → w.heap.size ≤ q ∧ ¬ S q ∧ ¬ Mine (g9 + 1) 6 q ∧ ¬ Of b v q := by
              intro q hq
              rcases hat with e | e
              · exact hO2 q (e.symm.trans hq)
              · rw [e] at hq
                simp at hq
                subst hq
                exact ⟨by omega, fun h => by have := hS9 _ h; omega, fun h => by have := h.2; omega, fun h => by have := hR.lt _ h; omega⟩
            have hk1 : Keeps (fun q => S q ∨ Mine (g9 + 1) 6 q) A w1 := Keeps.of_upd hU1 (fun q _ h e => h.elim (hO2 q e).2.1 (hO2 q e).2.2.1)
            obtain ⟨w2, hw2⟩ : ∃ w2, w1.setCell ⟨g9, 0, none⟩ (.slice (some ⟨g3, 0, none⟩) (pre.length + 1) c3) = w2 := ⟨_, rfl⟩
            have hU2 : Upd (fun q => q = g9) w1 w2 := by rw [← hw2]; exact upd_setCell_self w1 ⟨g9, 0, none⟩ _
            have T2 : Thr0 w g5 b (.slice a0 k cap0) st w2 := T1.upd h5w hU2 (fun q e => by omega) (by omega) (by omega) (by omega) (by omega)
            have R2 := R1.upd hU2 (fun q hq e => R1.not_of h91 (by decide) (by decide) (e ▸ hq))
            have h92 : w2.heap[g9]? = some (.cells #[.slice (some ⟨g3, 0, none⟩) (pre.length + 1) c3] 22 (0, 0)) := by rw [← hw2]; simpa using blk_set h91 0 (.slice (some ⟨g3, 0, none⟩) (pre.length + 1) c3)
            have hown2 := ownsRow_upd hown3 hU2 (fun q hq e => hne91 (by rw [hq, e]))
            have hk2 : Keeps (fun q => S q ∨ Mine (g9 + 1) 6 q) A w2 := hk1.trans (Keeps.of_upd hU2 (fun q _ h e => h.elim (fun h => by have := hS9 _ h; omega) (fun h => by have := h.1; omega)))
            have c91 := blk_cell h91 0
            have f91 := blk_frozen h91 0
            simp at c91
            clear cl cs c5 c9 f9 hown1 hown hk1 hU1 hgrow t0 T1 R1 hR h2 hO2 hown3 hat hne9
            have cl := blk_cell T2.bl 0
            have cs := blk_cell T2.bs 0
            have c5 := blk_cell T2.b5 0
            have c9 := blk_cell h92 0
            simp at cl cs c5 c9
            have hy0 : (y :: ys').length = k := by rw [hy, HL0.out]
            rw [HL0.out] at hy
            have HY := Lib.hid hy
            have hlt9 : ¬ (k : Int) < (pre.length : Int) + 1 := by omega
            clear hy hy0
            gi_wp2_with (fail)
            refine ⟨trivial, (CallsIn.inRound l (callsIn_wide.2 (iPop b v 10000 y ys' _ R2 (by decide)))).mono ?_⟩
            rintro e w3 ⟨rfl, v4, R3, hU3, ho3⟩
            have hHR : Hi w.heap.size b v := fun q hq => (hO q hq).1
            have T3 := T2.ring h5w R2 hHR hU3
            have h93 := hU3.heap h92 (R2.not_of h92 (by decide) (by decide))
            have hown4 := ownsRow_upd hown2 hU3 (fun q hq e => (hO3 q hq).2.2.2 e)
            have hOf4 : ∀ q, Of b v4 q → Of b v q := fun q hq => hq.imp id (fun h => by rw [← ho3]; exact h)
            have hk3 : Keeps (fun q => S q ∨ Mine (g9 + 1) 6 q) A w3 := hk2.trans (Keeps.of_upd hU3 (fun q _ h e => h.elim (hO q e).2.1 (hO q e).2.2))
            have hlen3 : (ys'.length : Int) < 10000 := by have := HY.out; simp at this; omega
            have c53 := blk_cell T3.b5 0
            simp at c53
            clear cl cs c5 c9 c91 f91 T2 h92 hown2 hk2
            gi_wp2_with (fail)
            refine ⟨trivial, (CallsIn.inRound l (callsIn_wide.2 (iPush b v4 10000 ys' _ _ R3 (by decide) (by decide) hlen3))).mono ?_⟩
            rintro e w4 ⟨rfl, v5, R5, hU5, ho5⟩
            have T4 := T3.ring h5w R3 (fun q hq => hHR q (hOf4 q hq)) hU5
            have h94 := hU5.heap h93 (R3.not_of h93 (by decide) (by decide))
            have hown5 := ownsRow_upd hown4 hU5 (fun q hq e => (hO3 q hq).2.2.2 (hOf4 q e))
            have hk5 : Keeps (fun q => S q ∨ Mine (g9 + 1) 6 q) A w4 := hk3.trans (Keeps.of_upd hU5 (fun q _ h e => h.elim (hO q (hOf4 q e)).2.1 (hO q (hOf4 q e)).2.2))
            have hO5 : ∀ q, Of b v5 q → w.heap.size ≤ q ∧ ¬ S q ∧ ¬ Mine (g9 + 1) 6 q ∧ (Of b v q ∨ w3.heap.size ≤ q) := by
              rintro q (rfl | hq)
              · exact ⟨(hO _ (.inl rfl)).1, (hO _ (.inl rfl)).2.1, (hO _ (.inl rfl)).2.2, .inl (.inl rfl)⟩
              · rcases ho5 with e | ⟨g, e, hg⟩
                · have h := hOf4 q (.inr (e.symm.trans hq))
                  exact ⟨(hO q h).1, (hO q h).2.1, (hO q h).2.2, .inl h⟩
                · have eg : g = q := by rw [e] at hq; simpa using hq
                  subst eg
                  have hk3s := hk3.size
                  exact ⟨by omega, fun h => by have := hS9 _ h; omega, fun h => by have := h.2; omega, .inr hg⟩
            have hlt3 : ∀ q, (Value.slice (some ⟨g3, 0, none⟩) (pre.length + 1) c3).ownBlock = some q → q < w3.heap.size := fun q hq => (hown4.lt q hq).2
            have T5' : Thr1 w g5 g9 b (.slice a0 k cap0) st S (g9 + 1) zs.length (pre ++ [x]) w4 := by
              refine ⟨T4, v5, _, _, R5, ?_, fun q hq => ⟨(hO5 q hq).1, (hO5 q hq).2.1, (hO5 q hq).2.2.1⟩, h94, ?_, fun q hq => ⟨(hO3 q hq).1, (hO3 q hq).2.1, (hO3 q hq).2.2.1, fun h => ?_⟩⟩
              · rw [HL0.out, ← HY.out]; simp
              · rw [List.length_append, cellsOf_append, cellsOf_one]; exact hown5
              · rcases (hO5 q h).2.2.2 with h | h
                · exact (hO3 q hq).2.2.2 h
                · have := hlt3 q hq; omega
            have HT5 := Lib.hid T5'
            have cs4 := blk_cell T4.bs 0
            have c94 := blk_cell h94 0
            simp at cs4 c94
            clear T5' T4 h94 hown5 hO5 hlt3 T3 h93 hown4 hk3 c53 R3 R5 hU3 hU5 ho5 hO3 hO R2
            by_cases hbr : (pre.length : Int) + 1 = st
            · gi_wp2_with (fail)
              exact ⟨by rw [hz5]; exact hk5, rfl, HT5.out, by rw [List.length_append]; simp; omega, by omega⟩
            · gi_wp2_with (fail)
              exact ⟨by rw [hz5]; exact hk5, HT5.out, by rw [List.length_append]; simp; omega⟩
        case done =>
          rintro A ⟨hT1, hst⟩ hK
          obtain ⟨ys, hys⟩ : ∃ ys, ys = zs := ⟨_, rfl⟩
          have hpre : ys <+: zs := by rw [hys]; exact List.prefix_refl _
          have hW : (ys.length : Int) = if 0 < st then min (zs.length : Int) st else zs.length := by rw [hys]; split <;> omega
          rw [← hys] at hT1
          clear hys hst
          obtain ⟨t0, v, _, v2, _, _, _, h2, hown, _⟩ := hT1
          obtain ⟨a2, c2, rfl⟩ := own_slice hown
          have hsI := Lib.hid (ints_of_own hown rfl)
          have cl := blk_cell t0.bl 0
          have cs := blk_cell t0.bs 0
          have cr := blk_cell t0.br 0
          have fr := blk_frozen t0.br 0
          have c9 := blk_cell h2 0
          simp at cl cs cr c9
          have HT := Lib.hid t0
          have HP := Lib.hid hpre
          have hle : ys.length ≤ k := by have := hpre.length_le; rw [HL0.out] at this; exact this
          rw [HL0.out] at hW
          clear t0 h2 hown hpre
          by_cases hs : 0 < st
          all_goals
            have HW : Hid ((ys.length : Int) = if 0 < st then min (k : Int) st else k) := hW
            clear hW
            go_wp2_with fail
            go_loop [70] (fun ix => ∃ j : Nat, j ≤ ys.length ∧ ix = .int .i64 j) (fun ix => ys.length - (intOf ix).toNat)
            case atStart => exact ⟨0, Nat.zero_le _, rfl⟩
            case round =>
              obtain ⟨j, hj, rfl⟩ := hrel
              by_cases hlt : j < ys.length
              · obtain ⟨y, hy⟩ : ∃ y, ys[j]? = some y := ⟨_, List.getElem?_eq_getElem hlt⟩
                obtain ⟨e1, o1, rfl, hcell1⟩ := hsI.out.get hy
                obtain ⟨e2, o2, rfl, hcell2⟩ := (HI0.out.below HT.out.below).get (HP.out.getElem?_eq_some hy)
                have hjk : (j : Int) < (k : Int) := by omega
                clear hy
                go_wp2_with fail
                go_round
                case rel => exact ⟨j + 1, by omega, by go_num⟩
                case measure => simp [intOf]; omega
              · obtain rfl : j = ys.length := by omega
                go_wp2
                first
                  | rw [show ((ys.length : Int) == min (k : Int) st) = true from by have := HW.out; rw [if_pos hs] at this; simpa using this]
                  | rw [show ((ys.length : Int) == (k : Int)) = true from by have := HW.out; rw [if_neg (by omega)] at this; simpa using this]
                have t0 := HT.out
                rw [hz5] at hK
                have hne : g9 + 1 ≠ w.heap.size + 1 + 1 := by omega
                have hK2 := blk_far hK ⟨w.heap.size + 1 + 1, 0, none⟩ hne (.bool true)
                refine ⟨by simp, .inl ⟨_, _, rfl, run_takeDeferred hK2, ?_⟩⟩
                have hc := blk_cell (((blk_set t0.br 0 (.bool true)).symm ▸ (World.putObj_heap_other (w := A.setCell ⟨w.heap.size + 1 + 1, 0, none⟩ (.bool true)) (r := g9 + 1) (o := .deferred none) hne.symm) : _)) 0
                simp at hc
                refine ⟨.bool true, ?_, rfl, ?_⟩
                · simp [results, Try.results4, go_sem, hc]
                · exact (t0.below.setCell (p := ⟨w.heap.size + 1 + 1, 0, none⟩) (by show w.heap.size ≤ w.heap.size + 1 + 1; omega) _).trans
                    ((Upd.refl (fun q => q = g9 + 1) _).putObj _ _ (fun _ => rfl) |>.below (by have := t0.below.size; simp [World.setCell]; omega) (fun i hi e => by omega))
        case stop =>
          rintro c ys A hpre ⟨rfl, hT1, hst, hst0⟩ hK
          have hW : (ys.length : Int) = if 0 < st then min (zs.length : Int) st else zs.length := by have := hpre.length_le; split <;> omega
          clear hst hst0
          obtain ⟨t0, v, _, v2, _, _, _, h2, hown, _⟩ := hT1
          obtain ⟨a2, c2, rfl⟩ := own_slice hown
          have hsI := Lib.hid (ints_of_own hown rfl)
          have cl := blk_cell t0.bl 0
          have cs := blk_cell t0.bs 0
          have cr := blk_cell t0.br 0
          have fr := blk_frozen t0.br 0
          have c9 := blk_cell h2 0
          simp at cl cs cr c9
          have HT := Lib.hid t0
          have HP := Lib.hid hpre
          have hle : ys.length ≤ k := by have := hpre.length_le; rw [HL0.out] at this; exact this
          rw [HL0.out] at hW
          clear t0 h2 hown hpre
          by_cases hs : 0 < st
          all_goals
            have HW : Hid ((ys.length : Int) = if 0 < st then min (k : Int) st else k) := hW
            clear hW
            go_wp2_with fail
            go_loop [70] (fun ix => ∃ j : Nat, j ≤ ys.length ∧ ix = .int .i64 j) (fun ix => ys.length - (intOf ix).toNat)
            case atStart => exact ⟨0, Nat.zero_le _, rfl⟩
            case round =>
              obtain ⟨j, hj, rfl⟩ := hrel
              by_cases hlt : j < ys.length
              · obtain ⟨y, hy⟩ : ∃ y, ys[j]? = some y := ⟨_, List.getElem?_eq_getElem hlt⟩
                obtain ⟨e1, o1, rfl, hcell1⟩ := hsI.out.get hy
                obtain ⟨e2, o2, rfl, hcell2⟩ := (HI0.out.below HT.out.below).get (HP.out.getElem?_eq_some hy)
                have hjk : (j : Int) < (k : Int) := by omega
                clear hy
                go_wp2_with fail
                go_round
                case rel => exact ⟨j + 1, by omega, by go_num⟩
                case measure => simp [intOf]; omega
              · obtain rfl : j = ys.length := by omega
                go_wp2
                first
                  | rw [show ((ys.length : Int) == min (k : Int) st) = true from by have := HW.out; rw [if_pos hs] at this; simpa using this]
                  | rw [show ((ys.length : Int) == (k : Int)) = true from by have := HW.out; rw [if_neg (by omega)] at this; simpa using this]
                have t0 := HT.out
                rw [hz5] at hK
                have hne : g9 + 1 ≠ w.heap.size + 1 + 1 := by omega
                have hK2 := blk_far hK ⟨w.heap.size + 1 + 1, 0, none⟩ hne (.bool true)
                refine ⟨by simp, .inl ⟨_, _, rfl, run_takeDeferred hK2, ?_⟩⟩
                have hc := blk_cell (((blk_set t0.br 0 (.bool true)).symm ▸ (World.putObj_heap_other (w := A.setCell ⟨w.heap.size + 1 + 1, 0, none⟩ (.bool true)) (r := g9 + 1) (o := .deferred none) hne.symm) : _)) 0
                simp at hc
                refine ⟨.bool true, ?_, rfl, ?_⟩
                · simp [results, Try.results4, go_sem, hc]
                · exact (t0.below.setCell (p := ⟨w.heap.size + 1 + 1, 0, none⟩) (by show w.heap.size ≤ w.heap.size + 1 + 1; omega) _).trans
                    ((Upd.refl (fun q => q = g9 + 1) _).putObj _ _ (fun _ => rfl) |>.below (by have := t0.below.size; simp [World.setCell]; omega) (fun i hi e => by omega))

end Go.Proofs.Ythehhnlkpcfofaa
