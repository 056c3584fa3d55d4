/-
  Sum's walk.
-/
import Derived.Test.YtehgbpepaakanaaDoorCe
import Derived.Laws.BitsAllLaws
namespace Go.Proofs.YtehgbpepaakanaaDoor
open Go.RowKit Go.Shelf
set_option linter.unusedVariables false
set_option linter.unusedSimpArgs false
set_option maxRecDepth 20000

attribute [local go_sem] Oper.semAt_some

/-- The variables x and y of Sum. -/
def SV (w : World) (s : Int × Int) (A : World) : Prop :=
  A.heap[w.heap.size]? = some (.cells #[.int .u32 s.1] 125 (0,0)) ∧ A.heap[w.heap.size + 1]? = some (.cells #[.int .u32 s.2] 125 (0,0)) ∧ Below w.heap.size w A

theorem SV.upd {w : World} {s : Int × Int} {A A' : World} (h : SV w s A) {S : Nat → Prop} (hu : Upd S A A') (hS : ∀ k, S k → w.heap.size + 2 ≤ k) : SV w s A' :=
  ⟨hu.heap h.1 (fun h => by have := hS _ h; omega), hu.heap h.2.1 (fun h => by have := hS _ h; omega), h.2.2.trans (hu.below h.2.2.size (fun i hi h => by have := hS _ h; omega))⟩
theorem SV.set1 {w : World} {x y u : Int} {A : World} (h : SV w (x, y) A) : SV w (u, y) (A.setCell ⟨w.heap.size, 0, none⟩ (.int .u32 u)) :=
  ⟨by simpa using blk_set h.1 0 (.int .u32 u), blk_far h.2.1 ⟨w.heap.size, 0, none⟩ (by show w.heap.size + 1 ≠ w.heap.size; omega) _, h.2.2.setCell (p := ⟨w.heap.size, 0, none⟩) (Nat.le_refl _) _⟩
theorem SV.set2 {w : World} {x y u : Int} {A : World} (h : SV w (x, y) A) : SV w (x, u) (A.setCell ⟨w.heap.size + 1, 0, none⟩ (.int .u32 u)) :=
  ⟨blk_far h.1 ⟨w.heap.size + 1, 0, none⟩ (by show w.heap.size ≠ w.heap.size + 1; omega) _, by simpa using blk_set h.2.1 0 (.int .u32 u), h.2.2.setCell (p := ⟨w.heap.size + 1, 0, none⟩) (Nat.le_succ _) _⟩
theorem range_get {pre : List Nat} {q M : Nat} (h : pre ++ [q] <+: List.range M) : q = pre.length ∧ q < M := by
  have h1 : (List.range M)[pre.length]? = some q := by
    obtain ⟨r, hr⟩ := h
    rw [← hr]
    simp
  rw [List.getElem?_range] at h1
  · have := Option.some.inj h1
    have hl := (List.IsPrefix.length_le h)
    simp at hl
    omega
  · have hl := (List.IsPrefix.length_le h)
    simp at hl
    omega
/-- What a chunk does. -/
theorem chunk_step (bs : List Int) (q e : Nat) (he : e = chunkLen bs.length q) : red (((bs.drop (q * 3000)).take e).foldl ad (red (adler (bs.take (q * 3000))))) = red (adler (bs.take ((q + 1) * 3000))) := by
  rw [red_fold]
  unfold adler
  rw [← List.foldl_append]
  congr 2
  have h1 : (bs.drop (q * 3000)).take e = (bs.drop (q * 3000)).take 3000 := by
    rw [List.take_eq_take_iff, List.length_drop, he]
    unfold chunkLen
    omega
  rw [h1, Nat.add_mul, Nat.one_mul, List.take_add]

theorem take_fold (ys : List Int) (j : Nat) (c : Int) (s : Int × Int) (h : ys[j]? = some c) : (ys.take (j + 1)).foldl ad s = ad ((ys.take j).foldl ad s) c := by
  rw [List.take_add_one, h, List.foldl_append]; rfl
theorem sum_bounds (ys : List Int) (s : Int × Int) (j : Nat) (hj : j ≤ 3000) (hb : Byts ys) (h1 : 0 ≤ s.1) (h2 : s.1 < 65521) (h3 : 0 ≤ s.2) (h4 : s.2 < 65521) :
    0 ≤ ((ys.take j).foldl ad s).1 ∧ ((ys.take j).foldl ad s).1 ≤ 830520 ∧ 0 ≤ ((ys.take j).foldl ad s).2 ∧ ((ys.take j).foldl ad s).2 ≤ 65520 + 830520 * j := by
  have hl : (ys.take j).length ≤ j := by rw [List.length_take]; omega
  obtain ⟨a1, a2, a3⟩ := fold_le (ys.take j) s 0 (hb.take j) h1 h3
  have a4 := fold_le2 (ys.take j) s 830520 (hb.take j) h1 (by omega)
  refine ⟨a1, by omega, a3, ?_⟩
  have : (830520 : Int) * (ys.take j).length ≤ 830520 * j := by omega
  omega

theorem or16 (y x : Int) (hy0 : 0 ≤ y) (hy1 : y < 65536) (hx0 : 0 ≤ x) (hx1 : x < 65536) : bits .or .u32 (y * 65536) x = y * 65536 + x := by
  obtain ⟨a, rfl⟩ := Int.eq_ofNat_of_zero_le hy0
  obtain ⟨b, rfl⟩ := Int.eq_ofNat_of_zero_le hx0
  have h1 : a < 65536 := by omega
  have h2 : b < 2 ^ 16 := by omega
  have key : (65536 * a ||| b) = 65536 * a + b := (Nat.two_pow_add_eq_or_of_lt (i := 16) h2 a).symm
  have e : ((a : Int) * 65536) = ((65536 * a : Nat) : Int) := by omega
  have h3 : b < 65536 := by omega
  rw [e, u32_or_nat _ _ (by omega) (by omega), key]
  omega

set_option maxHeartbeats 1000000 in
theorem sum_is (b off m d : Nat) (bs : List Int) (w : World) (hb : b < w.heap.size) (hlen : bs.length = m) (hm : m ≤ 10000) (hd : m ≤ d) (hd2 : (d : Int) ≤ 9223372036854775807)
    (hc : ∀ j x, bs[j]? = some x → w.cell? ⟨b, off + j, none⟩ = some (.int .u8 x)) (hB : Byts bs) :
    Calls Tryd.prog 52 #[.slice (some ⟨b, off, none⟩) m d] w fun e w' => e = .returned (.int .u32 (sumOf bs)) ∧ Below w.heap.size w w' := by
  obtain ⟨w4, hw4⟩ : ∃ w4, (((w.alloc (.cells #[.int .u32 1] 125)).alloc (.cells #[.int .u32 0] 125)).alloc (.cells #[.slice (some ⟨b, off, none⟩) m d] 28)).alloc (.cells #[.int .i64 3000] 3) = w4 := ⟨_, rfl⟩
  have hz4 : w4.heap.size = w.heap.size + 4 := by rw [← hw4]; simp
  have hV4 : SV w (1, 0) w4 := by
    refine ⟨?_, ?_, ?_⟩
    · rw [← hw4]; exact blk_alloc (blk_alloc (blk_alloc (World.alloc_heap_new w _) _) _) _
    · rw [← hw4]; have := World.alloc_heap_new (w.alloc (.cells #[.int .u32 1] 125)) (.cells #[.int .u32 0] 125); rw [World.size_alloc] at this; exact blk_alloc (blk_alloc this _) _
    · rw [← hw4]; exact ((((Below.refl _ w).alloc (Nat.le_refl _) _).alloc (by simp) _).alloc (by simp; omega) _).alloc (by simp; omega) _
  have hs4 : w4.cell? ⟨w.heap.size + 1 + 1, 0, none⟩ = some (.slice (some ⟨b, off, none⟩) m d) := by
    rw [← hw4]
    have := World.alloc_heap_new ((w.alloc (.cells #[.int .u32 1] 125)).alloc (.cells #[.int .u32 0] 125)) (.cells #[.slice (some ⟨b, off, none⟩) m d] 28)
    rw [World.size_alloc, World.size_alloc] at this
    exact blk_cell (blk_alloc this _) 0
  have hn4 : w4.cell? ⟨w.heap.size + 1 + 1 + 1, 0, none⟩ = some (.int .i64 3000) := by
    rw [← hw4]
    have := World.alloc_heap_new (((w.alloc (.cells #[.int .u32 1] 125)).alloc (.cells #[.int .u32 0] 125)).alloc (.cells #[.slice (some ⟨b, off, none⟩) m d] 28)) (.cells #[.int .i64 3000] 3)
    rw [World.size_alloc, World.size_alloc, World.size_alloc] at this
    exact blk_cell this 0
  have HC := Lib.hid hc
  have HW4 := Lib.hid hw4
  clear hc hw4
  refine calls_marks Tryd.func52 rfl ?_
  simp only [Tryd.ntmps52, List.size_toArray, List.length_cons, List.length_nil, Nat.reduceAdd, Nat.reduceSub, Array.replicate_succ, Array.replicate_zero, List.push_toArray, List.append_toArray, List.nil_append, List.cons_append]
  go_wp2_with fail
  refine (chunk_is _ _ _ _).mono ?_
  rintro e w2 ⟨rfl, hw2⟩
  rw [HW4.out] at hw2
  subst hw2
  go_wp2_with fail
  refine wp_rangeFunc_U (gf := 70) rfl (enters_of Tryd.func70 (by kernel_rfl) rfl)
    (chunk1_U Fence.wide 8 trivial rfl (by omega) (w.heap.size + 1 + 1) (w.heap.size + 1 + 1 + 1) (fun k => k = w.heap.size + 1 + 1 ∨ k = w.heap.size + 1 + 1 + 1) (.inl rfl) (.inr rfl) b off m d hm hd hd2 w2 hs4 hn4) (Keeps.refl _ _) (fun k hk => by rcases hk with rfl | rfl <;> omega) (fun _ => rfl)
    (fun pre A => SV w (red (adler (bs.take (pre.length * 3000)))) A) (fun _ _ _ => False) ?hI (fun _ _ _ _ h _ => h) ?h0
    (fun q => { tmps := #[.slice (some ⟨b, off, none⟩) m d, undef, .int .u32 0, .pointer (some ⟨w.heap.size, 0, none⟩), .pointer (some ⟨w.heap.size + 1, 0, none⟩),
        .slice (some ⟨b, off + q * 3000, none⟩) (chunkLen m q) (chunkLen m q), undef, undef, .slice (some ⟨b, off, none⟩) m d,
        .func (.func 70) #[] #[.pointer (some ⟨w.heap.size + 1 + 1, 0, none⟩), .pointer (some ⟨w.heap.size + 1 + 1 + 1, 0, none⟩)], .slice (some ⟨b, off + q * 3000, none⟩) (chunkLen m q) (chunkLen m q),
        undef, undef, undef, undef, undef, undef, undef, undef, undef, undef, undef, undef, undef, undef, undef, undef, undef, undef, undef, undef, undef, undef], defers := [] }) ?assign ?body ?done ?stop
  case hI =>
    intro s A A' hs hu
    exact hs.upd hu (fun k hk => by have := hk.1; omega)
  case h0 =>
    have : red (adler (bs.take (([] : List Nat).length * 3000))) = (1, 0) := by simp [adler, red]
    simp only [this]
    exact hV4
  case assign =>
    intro l q A K hK
    unfold encC
    gi_wp2
    exact hK
  case body =>
    rintro l pre q A hV hpre hsz
    obtain ⟨hq, hqM⟩ := range_get hpre
    rw [← hq] at hV
    have hstep := Lib.hid (chunk_step bs q (chunkLen m q) (by rw [hlen]))
    obtain ⟨s0, hs0⟩ : ∃ s0, s0 = red (adler (bs.take (q * 3000))) := ⟨_, rfl⟩
    rw [← hs0] at hV hstep
    have hs1 := Lib.hid (show 0 ≤ s0.1 ∧ s0.1 < 65521 ∧ 0 ≤ s0.2 ∧ s0.2 < 65521 by rw [hs0]; simp only [red]; omega)
    have hq3 : q * 3000 < m := by omega
    have hge : ∀ j, j < chunkLen m q → (bs.drop (q * 3000))[j]? = some (bs.getD (q * 3000 + j) 0) ∧ w.cell? ⟨b, off + q * 3000 + j, none⟩ = some (.int .u8 (bs.getD (q * 3000 + j) 0)) ∧ 0 ≤ bs.getD (q * 3000 + j) 0 ∧ bs.getD (q * 3000 + j) 0 < 256 := by
      intro j hj
      unfold chunkLen at hj
      have hlt : q * 3000 + j < bs.length := by omega
      have e : bs[q * 3000 + j]? = some (bs.getD (q * 3000 + j) 0) := by rw [List.getD_eq_getElem?_getD, List.getElem?_eq_getElem hlt]; rfl
      refine ⟨by rw [List.getElem?_drop]; exact e, ?_, hB _ (List.mem_of_getElem? e)⟩
      have := HC.out _ _ e
      rwa [← Nat.add_assoc] at this
    have hsz' := hsz
    have hbd : Byts (bs.drop (q * 3000)) := hB.drop _
    have he3 : chunkLen m q ≤ 3000 := by unfold chunkLen; omega
    have hX : q * 3000 = q * 3000 := rfl
    obtain ⟨ys, hys⟩ : ∃ ys, ys = bs.drop (q * 3000) := ⟨_, rfl⟩
    rw [← hys] at hge hbd hstep
    obtain ⟨g, hg⟩ : ∃ g : Nat → Int, g = fun j => bs.getD (q * 3000 + j) 0 := ⟨_, rfl⟩
    replace hge : ∀ j, j < chunkLen m q → ys[j]? = some (g j) ∧ w.cell? ⟨b, off + q * 3000 + j, none⟩ = some (.int .u8 (g j)) ∧ 0 ≤ g j ∧ g j < 256 := by rw [hg]; exact hge
    obtain ⟨e, he⟩ : ∃ e, e = chunkLen m q := ⟨_, rfl⟩
    rw [← he] at hge hstep he3 ⊢
    have HG := Lib.hid hge
    have HQ := Lib.hid hq
    have HD := Lib.hid hbd
    clear hge hg hys he hs0 hq hX hbd
    gi_wp2
    gi_loopw [13] (fun i wr => ∃ j : Nat, j ≤ e ∧ i = .int .i64 j ∧ SV w ((ys.take j).foldl ad s0) wr ∧ Upd (fun k => k = w.heap.size ∨ k = w.heap.size + 1) A wr)
      (fun i _ => 4000 - (intOf i).toNat)
    case atStart => exact ⟨0, Nat.zero_le _, rfl, hV, Upd.refl _ _⟩
    case round =>
      obtain ⟨j, hj, rfl, hVj, hUj⟩ := hrel
      obtain ⟨t, ht⟩ : ∃ t, t = (ys.take j).foldl ad s0 := ⟨_, rfl⟩
      have hbo := sum_bounds ys s0 j (by omega) HD.out hs1.out.1 hs1.out.2.1 hs1.out.2.2.1 hs1.out.2.2.2
      rw [← ht] at hVj hbo
      have HT := Lib.hid ht
      clear ht
      obtain ⟨x, y⟩ := t
      simp only at hbo
      obtain ⟨hx0, hx1, hy0, hy1⟩ := hbo
      have cx := blk_cell hVj.1 0
      have cy := blk_cell hVj.2.1 0
      have fx := blk_frozen hVj.1 0
      have fy := blk_frozen hVj.2.1 0
      simp at cx cy
      by_cases hlt : j < e
      · obtain ⟨hgj, hcg, hg0, hg1⟩ := HG.out j hlt
        obtain ⟨c, hcc⟩ : ∃ c, c = g j := ⟨_, rfl⟩
        rw [← hcc] at hgj hcg hg0 hg1
        have hcl := (hVj.2.2.cell (p := ⟨b, off + q * 3000 + j, none⟩) hb).trans hcg
        have HGJ := Lib.hid hgj
        have HCC := Lib.hid hcc
        clear hgj hcg hcc
        have hlt' : (j : Int) < (e : Int) := by omega
        gi_wp2
        refine ⟨⟨j + 1, by omega, by simp, ?_, ?_⟩, by simp [intOf]; omega⟩
        · rw [take_fold ys j c s0 (by rw [HGJ.out, HCC.out]), ← HT.out]
          exact hVj.set1.set2
        · exact (hUj.setCell ⟨w.heap.size, 0, none⟩ _ (fun _ => .inl rfl)).setCell ⟨w.heap.size + 1, 0, none⟩ _ (fun _ => .inr rfl)
      · obtain rfl : j = e := by omega
        have hx2 : Int.tmod x 65521 = x % 65521 := Int.tmod_eq_emod_of_nonneg hx0
        have hy2 : Int.tmod y 65521 = y % 65521 := Int.tmod_eq_emod_of_nonneg hy0
        gi_wp2
        gi_region
        all_goals
          (have hfin : red (adler (bs.take ((pre ++ [q]).length * 3000))) = (x % 65521, y % 65521) := by
             rw [List.length_append, List.length_singleton, ← HQ.out, ← hstep.out, ← HT.out]; rfl
           have hK1 : ∀ (W' : World), Upd (fun k => k = w.heap.size ∨ k = w.heap.size + 1) A W' → Keeps (fun k => (k = w.heap.size + 1 + 1 ∨ k = w.heap.size + 1 + 1 + 1) ∨ Mine w2.heap.size (0 + 2) k) A W' := fun W' hU =>
             Keeps.of_upd hU (by
               rintro k _ ((h | h) | h) (h2 | h2)
               all_goals first | omega | (have := h.1; omega))
           refine ⟨hK1 _ ?_, ?_⟩
           · first
               | exact ((hUj.setCell ⟨w.heap.size, 0, none⟩ _ (fun _ => .inl rfl)).setCell ⟨w.heap.size + 1, 0, none⟩ _ (fun _ => .inr rfl)).drew
               | exact ((hUj.setCell ⟨w.heap.size + 1, 0, none⟩ _ (fun _ => .inr rfl)).setCell ⟨w.heap.size, 0, none⟩ _ (fun _ => .inl rfl)).drew
           · simp only [hfin]
             first
               | exact SV.upd (S := fun _ => False) hVj.set1.set2 (Upd.refl _ _).drew (fun _ h => h.elim)
               | exact SV.upd (S := fun _ => False) hVj.set2.set1 (Upd.refl _ _).drew (fun _ h => h.elim))
  case done =>
    rintro A hV hK
    have hall : bs.take ((chunks m).length * 3000) = bs := List.take_of_length_le (by simp [chunks]; omega)
    rw [hall] at hV
    have hs1 : 0 ≤ (red (adler bs)).1 ∧ (red (adler bs)).1 < 65521 ∧ 0 ≤ (red (adler bs)).2 ∧ (red (adler bs)).2 < 65521 := by simp only [red]; omega
    have hS : sumOf bs = (red (adler bs)).2 * 65536 + (red (adler bs)).1 := rfl
    obtain ⟨t, ht⟩ : ∃ t, t = red (adler bs) := ⟨_, rfl⟩
    rw [← ht] at hV hs1 hS
    obtain ⟨x, y⟩ := t
    simp only at hs1 hS
    obtain ⟨hx0, hx1, hy0, hy1⟩ := hs1
    have HS := Lib.hid hS
    clear ht hS
    have cx := blk_cell hV.1 0
    have cy := blk_cell hV.2.1 0
    simp at cx cy
    have hor := or16 y x hy0 (by omega) hx0 (by omega)
    go_wp2
    refine ⟨by simp, .inl ⟨_, _, rfl, run_takeDeferred hK, ?_⟩⟩
    refine ⟨.int .u32 (sumOf bs), ?_, rfl, ?_⟩
    · simp [results, Tryd.results52, go_sem, HS.out]
    · exact hV.2.2.trans ((Upd.refl (fun k => k = w2.heap.size) _).putObj _ _ (fun _ => rfl) |>.below hV.2.2.size (fun i hi e => by omega))
  case stop => intro c pre A _ h; exact h.elim
end Go.Proofs.YtehgbpepaakanaaDoor
