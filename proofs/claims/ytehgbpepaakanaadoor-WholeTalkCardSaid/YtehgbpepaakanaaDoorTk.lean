/-
  WholeTalk: what stands in memory; the air's calls in one form each.
-/
import Derived.Test.YtehgbpepaakanaaDoorTj
namespace Go.Proofs.YtehgbpepaakanaaDoor
open Go.RowKit
set_option linter.unusedVariables false
set_option linter.unusedSimpArgs false
set_option maxRecDepth 20000

/-! ### packets of texts -/
def pks (f : Nat) (ss : List ByteArray) : List Pk := (ss.zipIdx f).map fun x => ⟨(x.2 : Int), x.1⟩
theorem pks_len (f : Nat) (ss : List ByteArray) : (pks f ss).length = ss.length := by simp [pks]
theorem pks_at (f : Nat) (ss : List ByteArray) (j : Nat) : (pks f ss)[j]? = (ss[j]?).map (fun s => ⟨((f + j : Nat) : Int), s⟩) := by
  simp only [pks, List.getElem?_map, List.getElem?_zipIdx, Option.map_map]
  rfl
theorem pks_snoc (ss : List ByteArray) (s : ByteArray) : pks 0 (ss ++ [s]) = pks 0 ss ++ [⟨(ss.length : Int), s⟩] := by
  simp [pks, List.zipIdx_append]
theorem pks_drop (f h : Nat) (ss : List ByteArray) : (pks f ss).drop h = pks (f + h) (ss.drop h) := by
  apply List.ext_getElem?
  intro j
  rw [List.getElem?_drop, pks_at, pks_at, List.getElem?_drop, Nat.add_assoc]
theorem pks_consec {f : Nat} {ss : List ByteArray} (h : ∀ s ∈ ss, s.size ≤ 500) : Consec f (pks f ss) := by
  intro j x hx
  rw [pks_at] at hx
  cases e : ss[j]? with
  | none => rw [e] at hx; cases hx
  | some s =>
    rw [e] at hx
    simp at hx
    subst hx
    exact ⟨by simp, h s (List.mem_of_getElem? e)⟩
theorem pks_mem {ss : List ByteArray} {p : Pk} (h : p ∈ pks 0 ss) : ∃ j : Nat, p.q = j ∧ ss[j]? = some p.s := by
  obtain ⟨j, hj⟩ := List.getElem?_of_mem h
  rw [pks_at] at hj
  cases e : ss[j]? with
  | none => rw [e] at hj; cases hj
  | some s =>
    rw [e] at hj
    simp at hj
    subst hj
    exact ⟨j, rfl, e⟩

/-! ### the air's calls -/
/-- Air none of whose blocks lies in N, and the letters to 3. -/
def Air3 (N : Nat → Prop) (w : World) (A : Nat) (L : List Lt) : Prop := ∃ st, AirHi N w A 1000 st ∧ st 3 = L
theorem Air3.less {N N' : Nat → Prop} {w : World} {A : Nat} {L : List Lt} (h : Air3 N w A L) (hn : ∀ k, N' k → N k) : Air3 N' w A L := by
  obtain ⟨st, h, e⟩ := h
  exact ⟨st, h.less hn, e⟩
/-- N and the new blocks. -/
def More (N : Nat → Prop) (w w' : World) : Nat → Prop := fun k => N k ∨ (w.heap.size ≤ k ∧ k < w'.heap.size)
theorem Air3.out {N : Nat → Prop} {w w' : World} {A : Nat} {L : List Lt} (h : Air3 N w A L) (hu : Upd N w w') : Air3 (More N w w') w' A L := by
  obtain ⟨st, ⟨P, ⟨b, v, L, h0, hP, hst⟩, h2, h3, h4⟩, e⟩ := h
  refine ⟨st, ⟨Blocks A b v L, ⟨b, v, L, h0.keep hu (fun k hk hN => h2 k (hP k hk) hN), fun _ h => h, hst⟩, fun k hk hn => ?_, fun k hk => ?_, h4⟩, e⟩
  · have := h0.lt hk
    rcases hn with hn | hn
    · exact h2 k (hP k hk) hn
    · omega
  · rcases hk with hk | hk
    · exact Nat.lt_of_lt_of_le (h3 k hk) hu.size
    · exact hk.2
theorem len_u {N : Nat → Prop} {w : World} {A : Nat} {L : List Lt} (h : Air3 N w A L) : Calls Tryd.prog 18 #[.pointer (some ⟨A, 0, none⟩), .int .u8 3] w fun e w' => e = .returned (.int .i64 (L.length : Nat)) ∧ w = w' := by
  obtain ⟨st, h, rfl⟩ := h
  exact len_hi 3 h (by decide)
theorem again_u {N : Nat → Prop} {w : World} {A : Nat} {L : List Lt} (h : Air3 N w A L) (i : Nat) (hL : ∀ x ∈ L, x.bs.length ≤ 4000) (hn : L.length < 1000) :
    Calls Tryd.prog 10 #[.pointer (some ⟨A, 0, none⟩), .int .u8 3, .int .i64 i] w fun e w' => ∃ c L', e = .returned (.int .i64 c) ∧ Air3 N w' A L' ∧ (∀ x ∈ L', x ∈ L) ∧ L'.length ≤ L.length + 1 ∧ Kept N w w' := by
  obtain ⟨st, h, rfl⟩ := h
  cases e : (st 3)[i]? with
  | none =>
    have hi : (st 3).length ≤ i := List.getElem?_eq_none_iff.1 e
    refine (again_err_hi 3 i h (by decide) (fun _ => .inr (by omega))).mono ?_
    rintro e w' ⟨rfl, hA, hK⟩
    exact ⟨_, st 3, rfl, ⟨st, hA, rfl⟩, fun _ h => h, by omega, hK⟩
  | some x =>
    refine (again_hi 3 i x h (by decide) e (hL x (List.mem_of_getElem? e)) (by omega)).mono ?_
    rintro e' w' ⟨rfl, hA, hK⟩
    refine ⟨_, st 3 ++ [x], rfl, ⟨_, hA, upd_same _ _ _⟩, fun y hy => ?_, by simp, hK⟩
    rcases List.mem_append.1 hy with h | h
    · exact h
    · simp at h; subst h; exact List.mem_of_getElem? e
theorem take_u {N : Nat → Prop} {w : World} {A : Nat} {L : List Lt} (h : Air3 N w A L) (i : Nat) :
    Calls Tryd.prog 12 #[.pointer (some ⟨A, 0, none⟩), .int .u8 3, .int .i64 i] w fun e w' => ∃ f t a m d c L', e = .returned (.tuple #[.agg #[.int .u8 f, .int .u8 t, .slice a m d], .int .i64 c]) ∧ Air3 N w' A L' ∧ Kept N w w' ∧
      ((c = 0 ∧ ∃ x, L[i]? = some x ∧ BR w' a m d x.bs ∧ L' = L.eraseIdx i) ∨ (c ≠ 0 ∧ L[i]? = none ∧ L' = L)) := by
  obtain ⟨st, h, rfl⟩ := h
  cases e : (st 3)[i]? with
  | none =>
    have hi : (st 3).length ≤ i := List.getElem?_eq_none_iff.1 e
    refine (take_err_hi 3 i h (by decide) (fun _ => .inr (by omega))).mono ?_
    rintro e w' ⟨rfl, hA, hK⟩
    exact ⟨_, _, _, _, _, _, st 3, rfl, ⟨st, hA, rfl⟩, hK, .inr ⟨errne 3, rfl, rfl⟩⟩
  | some x =>
    refine (take_hi 3 i x h (by decide) e).mono ?_
    rintro e' w' ⟨a, m, d, rfl, hS, hA, hK⟩
    exact ⟨_, _, a, m, d, 0, _, rfl, ⟨_, hA.less (fun k h => .inl h), upd_same _ _ _⟩, hK, .inl ⟨rfl, x, rfl, hS.readS, rfl⟩⟩

/-! ### what stands in memory -/
structure SyN (N : Nat → Prop) (n A : Nat) (W0 w : World) (L : List Lt) (nx : Int) (wv : Value) (wait : List Pk) (h : Int) (tv : Value) (told : List ByteArray) (sv : Value) (said : List ByteArray) : Prop where
  air : Air3 N w A L
  low : ∀ k, k < W0.heap.size → N k
  n0 : N n
  n1 : N (n + 1)
  n2 : N (n + 2)
  n3 : N (n + 3)
  pb : PB w n A
  ob : OB w (n + 1) nx wv 100
  ps : PS w wv wait
  nw : ∀ k, wv.ownBlock = some k → N k
  ib : IB w (n + 2) h
  tb : TB w (n + 3) tv
  ss : SS w tv told
  nt : ∀ k, tv.ownBlock = some k → N k
  sd : SS w sv said
  ns : ∀ k, sv.ownBlock = some k → N k
  sep : ∀ k, sv.ownBlock = some k → tv.ownBlock ≠ some k
  bel : Below W0.heap.size W0 w
  hi : W0.heap.size ≤ n
  ht : ∀ k, tv.ownBlock = some k → W0.heap.size ≤ k
  hs : ∀ k, sv.ownBlock = some k → W0.heap.size ≤ k

section
variable {N : Nat → Prop} {n A : Nat} {W0 w w' : World} {L L' : List Lt} {nx : Int} {wv : Value} {wait : List Pk} {h : Int} {tv : Value} {told : List ByteArray} {sv : Value} {said : List ByteArray}
/-- A call of the air. -/
theorem SyN.air_step (hS : SyN N n A W0 w L nx wv wait h tv told sv said) (hA : Air3 N w' A L') (hK : Kept N w w') : SyN N n A W0 w' L' nx wv wait h tv told sv said where
  air := hA
  low := hS.low
  n0 := hS.n0
  n1 := hS.n1
  n2 := hS.n2
  n3 := hS.n3
  pb := hK.heap hS.pb hS.n0
  ob := hK.heap hS.ob hS.n1
  ps := hS.ps.upd hK (fun k hk h => h (hS.nw k hk))
  nw := hS.nw
  ib := hK.heap hS.ib hS.n2
  tb := hK.heap hS.tb hS.n3
  ss := hS.ss.upd hK (fun k hk h => h (hS.nt k hk))
  nt := hS.nt
  sd := hS.sd.upd hK (fun k hk h => h (hS.ns k hk))
  ns := hS.ns
  sep := hS.sep
  bel := hS.bel.trans (hK.below hS.bel.size hS.low)
  hi := hS.hi
  ht := hS.ht
  hs := hS.hs
/-- Nothing that there was is changed. -/
theorem SyN.fresh (hS : SyN N n A W0 w L nx wv wait h tv told sv said) (hB : Below w.heap.size w w') : SyN (More N w w') n A W0 w' L nx wv wait h tv told sv said where
  air := hS.air.out (Upd.of_below hB _)
  low := fun k hk => .inl (hS.low k hk)
  n0 := .inl hS.n0
  n1 := .inl hS.n1
  n2 := .inl hS.n2
  n3 := .inl hS.n3
  pb := (hB.block _ (lt_of_heap hS.pb)).trans hS.pb
  ob := (hB.block _ (lt_of_heap hS.ob)).trans hS.ob
  ps := hS.ps.upd (Upd.of_below hB (fun _ => False)) (fun _ _ h => h)
  nw := fun k hk => .inl (hS.nw k hk)
  ib := (hB.block _ (lt_of_heap hS.ib)).trans hS.ib
  tb := (hB.block _ (lt_of_heap hS.tb)).trans hS.tb
  ss := hS.ss.upd (Upd.of_below hB (fun _ => False)) (fun _ _ h => h)
  nt := fun k hk => .inl (hS.nt k hk)
  sd := hS.sd.upd (Upd.of_below hB (fun _ => False)) (fun _ _ h => h)
  ns := fun k hk => .inl (hS.ns k hk)
  sep := hS.sep
  bel := hS.bel.trans (hB.mono hS.bel.size)
  hi := hS.hi
  ht := hS.ht
  hs := hS.hs
theorem two_own {w : World} {b1 b2 e1 e2 s1 s2 n1 n2 : Nat} {v1 v2 : Value} {x1 x2 : List Value} (h1 : w.ownsRow b1 e1 s1 v1 n1 x1) (h2 : w.ownsRow b2 e2 s2 v2 n2 x2) (hne : e1 ≠ e2) : ∀ k, v1.ownBlock = some k → v2.ownBlock ≠ some k := by
  intro k hk hk2
  rcases h2.2 with ⟨rfl, _⟩ | ⟨g, cap, cur, rfl, _, hg, _⟩
  · simp [Value.ownBlock] at hk2
  · have : g = k := by simpa [Value.ownBlock] using hk2
    subst this
    exact own_block_ne h1 hg hne hk
/-- The box of who says is written anew. -/
theorem SyN.setO {nx' : Int} {wv' : Value} {wait' : List Pk} (hS : SyN N n A W0 w L nx wv wait h tv told sv said) (hP : PS w wv' wait') (hn : ∀ k, wv'.ownBlock = some k → N k)
    (hw : w' = ((w.setCell ⟨n + 1, 0, none⟩ (.int .i64 nx')).setCell ⟨n + 1, 1, none⟩ wv').setCell ⟨n + 1, 2, none⟩ (.int .i64 100)) : SyN (More N w w') n A W0 w' L nx' wv' wait' h tv told sv said := by
  have hU : Upd (fun k => k = n + 1) w w' := by rw [hw]; exact (((Upd.refl (fun k => k = n + 1) w).setCell ⟨n + 1, 0, none⟩ _ (fun _ => rfl)).setCell ⟨n + 1, 1, none⟩ _ (fun _ => rfl)).setCell ⟨n + 1, 2, none⟩ _ (fun _ => rfl)
  have hb1 := own_block_ne hP hS.ob (by decide)
  have hb2 := own_block_ne hS.ss hS.ob (by decide)
  have hb3 := own_block_ne hS.sd hS.ob (by decide)
  exact {
    air := hS.air.out (hU.mono (fun k _ e => by rw [e]; exact hS.n1))
    low := fun k hk => .inl (hS.low k hk)
    n0 := .inl hS.n0
    n1 := .inl hS.n1
    n2 := .inl hS.n2
    n3 := .inl hS.n3
    pb := hU.heap hS.pb (by omega)
    ob := by rw [hw]; exact ((hS.ob.set0 nx').set1 wv').set2 100
    ps := hP.upd hU (fun k hk e => hb1 (by rw [hk, e]))
    nw := fun k hk => .inl (hn k hk)
    ib := hU.heap hS.ib (by omega)
    tb := hU.heap hS.tb (by omega)
    ss := hS.ss.upd hU (fun k hk e => hb2 (by rw [hk, e]))
    nt := fun k hk => .inl (hS.nt k hk)
    sd := hS.sd.upd hU (fun k hk e => hb3 (by rw [hk, e]))
    ns := fun k hk => .inl (hS.ns k hk)
    sep := hS.sep
    bel := hS.bel.trans (hU.below hS.bel.size (fun i hi e => by have := hS.hi; omega))
    hi := hS.hi
    ht := hS.ht
    hs := hS.hs }
/-- A text more is said. -/
theorem SyN.saidMore {sv' : Value} {said' : List ByteArray} (hS : SyN N n A W0 w L nx wv wait h tv told sv said) (hU : Upd (fun k => sv.ownBlock = some k) w w') (hs : SS w' sv' said')
    (hat : ∀ k, sv'.ownBlock = some k → sv.ownBlock = some k ∨ w.heap.size ≤ k) : SyN (More N w w') n A W0 w' L nx wv wait h tv told sv' said' := by
  have b1 := own_block_ne hS.sd hS.pb (by decide)
  have b2 := own_block_ne hS.sd hS.ob (by decide)
  have b3 := own_block_ne hS.sd hS.ib (by decide)
  have b4 := own_block_ne hS.sd hS.tb (by decide)
  have hb := hS.bel.size
  exact {
    air := hS.air.out (hU.mono (fun k _ e => hS.ns k e))
    low := fun k hk => .inl (hS.low k hk)
    n0 := .inl hS.n0
    n1 := .inl hS.n1
    n2 := .inl hS.n2
    n3 := .inl hS.n3
    pb := hU.heap hS.pb b1
    ob := hU.heap hS.ob b2
    ps := hS.ps.upd hU (fun k hk e => two_own hS.sd hS.ps (by decide) k e hk)
    nw := fun k hk => .inl (hS.nw k hk)
    ib := hU.heap hS.ib b3
    tb := hU.heap hS.tb b4
    ss := hS.ss.upd hU (fun k hk e => hS.sep k e hk)
    nt := fun k hk => .inl (hS.nt k hk)
    sd := hs
    ns := fun k hk => by
      rcases hat k hk with h | h
      · exact .inl (hS.ns k h)
      · exact .inr ⟨h, hs.lt k hk⟩
    sep := fun k hk e => by
      rcases hat k hk with h | h
      · exact hS.sep k h e
      · have := hS.ss.lt k e; omega
    bel := hS.bel.trans (hU.below hb (fun i hi e => by have := hS.hs i e; omega))
    hi := hS.hi
    ht := hS.ht
    hs := fun k hk => by
      rcases hat k hk with h | h
      · exact hS.hs k h
      · omega }
/-- A letter is heard. -/
theorem SyN.heard {h' : Int} {tv' : Value} {told' : List ByteArray} (hS : SyN N n A W0 w L nx wv wait h tv told sv said) (hI : IB w' (n + 2) h') (hT : TB w' (n + 3) tv') (hs : SS w' tv' told')
    (hat : ∀ k, tv'.ownBlock = some k → tv.ownBlock = some k ∨ w.heap.size ≤ k) (hU : Upd (fun k => k = n + 2 ∨ k = n + 3 ∨ tv.ownBlock = some k) w w') : SyN (More N w w') n A W0 w' L nx wv wait h' tv' told' sv said := by
  have b1 := own_block_ne hS.ss hS.pb (by decide)
  have b2 := own_block_ne hS.ss hS.ob (by decide)
  have c1 := own_block_ne hS.ps hS.ib (by decide)
  have c2 := own_block_ne hS.ps hS.tb (by decide)
  have c3 := own_block_ne hS.sd hS.ib (by decide)
  have c4 := own_block_ne hS.sd hS.tb (by decide)
  have hb := hS.bel.size
  have hi := hS.hi
  exact {
    air := hS.air.out (hU.mono (fun k _ e => by
      rcases e with rfl | rfl | e
      · exact hS.n2
      · exact hS.n3
      · exact hS.nt k e))
    low := fun k hk => .inl (hS.low k hk)
    n0 := .inl hS.n0
    n1 := .inl hS.n1
    n2 := .inl hS.n2
    n3 := .inl hS.n3
    pb := hU.heap hS.pb (by rintro (e | e | e); · omega
                            · omega
                            · exact b1 e)
    ob := hU.heap hS.ob (by rintro (e | e | e); · omega
                            · omega
                            · exact b2 e)
    ps := hS.ps.upd hU (by
      rintro k hk (rfl | rfl | e)
      · exact c1 hk
      · exact c2 hk
      · exact two_own hS.ss hS.ps (by decide) k e hk)
    nw := fun k hk => .inl (hS.nw k hk)
    ib := hI
    tb := hT
    ss := hs
    nt := fun k hk => by
      rcases hat k hk with h | h
      · exact .inl (hS.nt k h)
      · exact .inr ⟨h, hs.lt k hk⟩
    sd := hS.sd.upd hU (by
      rintro k hk (rfl | rfl | e)
      · exact c3 hk
      · exact c4 hk
      · exact hS.sep k hk e)
    ns := fun k hk => .inl (hS.ns k hk)
    sep := fun k hk e => by
      rcases hat k e with h | h
      · exact hS.sep k hk h
      · have := hS.sd.lt k hk; omega
    bel := hS.bel.trans (hU.below hb (by
      rintro i hi' (rfl | rfl | e)
      · omega
      · omega
      · have := hS.ht i e; omega))
    hi := hS.hi
    ht := fun k hk => by
      rcases hat k hk with h | h
      · exact hS.ht k h
      · omega
    hs := hS.hs }
end
end Go.Proofs.YtehgbpepaakanaaDoor
