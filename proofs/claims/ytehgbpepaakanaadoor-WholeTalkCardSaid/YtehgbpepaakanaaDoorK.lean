/-
  A kit of this seat's own: plain lemmas on worlds and owned rows; no program in it.
-/
import Derived.WalkKit
import Derived.Deep.RegionLaw
import Derived.Deep.AppendLies
import Derived.Deep.Draws
import Derived.Lib.Hide
import Derived.OpenShut
namespace Go.Proofs.YtehgbpepaakanaaDoor
open Go.RowKit
set_option linter.unusedVariables false
set_option maxRecDepth 20000

/-- All blocks of w but those in S are in w' as they were. -/
structure Upd (S : Nat → Prop) (w w' : World) : Prop where
  os : w'.os = w.os
  tape : w'.tape = w.tape
  output : w'.output = w.output
  size : w.heap.size ≤ w'.heap.size
  block : ∀ k, k < w.heap.size → ¬ S k → w'.heap[k]? = w.heap[k]?

theorem Upd.refl (S : Nat → Prop) (w : World) : Upd S w w := ⟨rfl, rfl, rfl, Nat.le_refl _, fun _ _ _ => rfl⟩
theorem Upd.trans {S S' : Nat → Prop} {a b c : World} (h : Upd S a b) (k : Upd S' b c) (hs : ∀ i, i < a.heap.size → S' i → S i) : Upd S a c :=
  ⟨k.os.trans h.os, k.tape.trans h.tape, k.output.trans h.output, Nat.le_trans h.size k.size,
   fun i hi hn => (k.block i (Nat.lt_of_lt_of_le hi h.size) (fun hs' => hn (hs i hi hs'))).trans (h.block i hi hn)⟩
theorem Upd.mono {S S' : Nat → Prop} {a b : World} (h : Upd S a b) (hs : ∀ i, i < a.heap.size → S i → S' i) : Upd S' a b :=
  ⟨h.os, h.tape, h.output, h.size, fun i hi hn => h.block i hi (fun hS => hn (hs i hi hS))⟩
theorem Upd.of_below {a b : World} (h : Below a.heap.size a b) (S : Nat → Prop) : Upd S a b :=
  ⟨h.os, h.tape, h.output, h.size, fun i hi _ => h.block i hi⟩
theorem Upd.of_grown {a b : World} {row : Option Nat} (h : a.grownBy b row) : Upd (fun k => row = some k) a b :=
  ⟨h.os, h.tape, h.output, h.size, fun i hi hn => h.block i hi (fun e => hn e.symm)⟩
theorem Upd.drew {S : Nat → Prop} {a b : World} (h : Upd S a b) : Upd S a b.drew := ⟨h.os, h.tape, h.output, h.size, h.block⟩
theorem Upd.drewN {S : Nat → Prop} {a b : World} (h : Upd S a b) (n : Nat) : Upd S a (b.drewN n) := ⟨h.os, h.tape, h.output, h.size, h.block⟩
theorem Upd.setCell {S : Nat → Prop} {a b : World} (h : Upd S a b) (p : Addr) (u : Value) (hp : p.block < a.heap.size → S p.block) : Upd S a (b.setCell p u) :=
  ⟨h.os, h.tape, h.output, by simpa [World.setCell] using h.size, fun i hi hn => (Below.heap_setCell b p u i (fun e => hn (by subst e; exact hp hi))).trans (h.block i hi hn)⟩
theorem Upd.alloc {S : Nat → Prop} {a b : World} (h : Upd S a b) (o : Obj) : Upd S a (b.alloc o) :=
  ⟨h.os, h.tape, h.output, Nat.le_trans h.size (by simp), fun i hi hn => (Below.heap_alloc b o i (Nat.lt_of_lt_of_le hi h.size)).trans (h.block i hi hn)⟩
theorem Upd.below {S : Nat → Prop} {B : Nat} {a b : World} (h : Upd S a b) (hB : B ≤ a.heap.size) (hs : ∀ i, i < B → ¬ S i) : Below B a b :=
  ⟨h.os, h.tape, h.output, h.size, fun i hi => h.block i (by omega) (hs i hi)⟩

theorem lt_of_heap {w : World} {g : Nat} {o : Obj} (h : w.heap[g]? = some o) : g < w.heap.size := (Array.getElem?_eq_some_iff.1 h).1
theorem Upd.heap {S : Nat → Prop} {a b : World} (h : Upd S a b) {g : Nat} {o : Obj} (hg : a.heap[g]? = some o) (hn : ¬ S g) : b.heap[g]? = some o :=
  (h.block g (lt_of_heap hg) hn).trans hg

/-- A row of owned cells is kept where its block is not in S. -/
theorem ownsRow_upd {S : Nat → Prop} {a b : World} {base : Nat} {e : TypeId} {size : Nat} {v : Value} {n : Nat} {xs : List Value} (h : a.ownsRow base e size v n xs) (hu : Upd S a b) (hn : ∀ k, v.ownBlock = some k → ¬ S k) : b.ownsRow base e size v n xs := by
  refine ⟨h.1, ?_⟩
  rcases h.2 with hz | ⟨g, cap, cur, rfl, hb, hg, rest⟩
  · exact .inl hz
  · exact .inr ⟨g, cap, cur, rfl, hb, hu.heap hg (hn g rfl), rest⟩

theorem ownsRow_base {w : World} {base base' : Nat} {e : TypeId} {size : Nat} {v : Value} {n : Nat} {xs : List Value} (h : w.ownsRow base e size v n xs) (hb : ∀ g, v.ownBlock = some g → base' ≤ g) : w.ownsRow base' e size v n xs := by
  refine ⟨h.1, ?_⟩
  rcases h.2 with hz | ⟨g, cap, cur, rfl, _, hg, rest⟩
  · exact .inl hz
  · exact .inr ⟨g, cap, cur, rfl, hb g rfl, hg, rest⟩

/-- The row's block is another than a block of other cells. -/
theorem own_block_ne {w : World} {base : Nat} {e t : TypeId} {size n g : Nat} {v : Value} {xs : List Value} {cs : Array Value} (h : w.ownsRow base e size v n xs) (hg : w.heap[g]? = some (.cells cs t (0, 0))) (hne : e ≠ t) : v.ownBlock ≠ some g := by
  rcases h.2 with ⟨rfl, _⟩ | ⟨g', cap, cur, rfl, _, hh, _⟩
  · simp [Value.ownBlock]
  · intro he
    have : g' = g := by simpa [Value.ownBlock] using he
    subst this
    rw [hh] at hg
    injection hg with hg
    injection hg with _ h2
    exact hne h2

theorem ownsRow_setCell_far {w : World} {base : Nat} {e : TypeId} {size n : Nat} {v : Value} {xs : List Value} (h : w.ownsRow base e size v n xs) (p : Addr) (u : Value) (hp : v.ownBlock ≠ some p.block) : (w.setCell p u).ownsRow base e size v n xs :=
  ownsRow_upd (S := fun k => k = p.block) h ((Upd.refl _ w).setCell p u (fun _ => rfl)) (fun k hk e => hp (by rw [hk, e]))

theorem blk_cell {w : World} {g : Nat} {t : TypeId} {cs : Array Value} (h : w.heap[g]? = some (.cells cs t (0, 0))) (i : Nat) : w.cell? ⟨g, i, none⟩ = cs[i]? := cell_of_row w g i cs t (0, 0) h
theorem blk_frozen {w : World} {g : Nat} {t : TypeId} {cs : Array Value} (h : w.heap[g]? = some (.cells cs t (0, 0))) (i : Nat) : w.frozen? ⟨g, i, none⟩ = false := by simp [World.frozen?, h]
theorem blk_set {w : World} {g : Nat} {t : TypeId} {cs : Array Value} (h : w.heap[g]? = some (.cells cs t (0, 0))) (i : Nat) (u : Value) : (w.setCell ⟨g, i, none⟩ u).heap[g]? = some (.cells (cs.setIfInBounds i u) t (0, 0)) := by
  simp [World.setCell, Array.getElem?_modify, h]
theorem blk_far {w : World} {g : Nat} {o : Obj} (h : w.heap[g]? = some o) (p : Addr) (hp : g ≠ p.block) (u : Value) : (w.setCell p u).heap[g]? = some o := (Below.heap_setCell w p u g hp).trans h
theorem blk_alloc {w : World} {g : Nat} {o : Obj} (h : w.heap[g]? = some o) (o' : Obj) : (w.alloc o').heap[g]? = some o := (Below.heap_alloc w o' g (lt_of_heap h)).trans h

/-- A ring (T: the struct's type, e: the elements' type, sz: the cells of an element): block b has the row v and the room; v owns n elements, whose cells are xs. -/
def RA (T e sz : Nat) (w : World) (b : Nat) (v : Value) (room : Int) (n : Nat) (xs : List Value) : Prop :=
  w.heap[b]? = some (.cells #[v, .int .i64 room] T (0, 0)) ∧ w.ownsRow 0 e sz v n xs

/-- The blocks of a ring. -/
def Of (b : Nat) (v : Value) : Nat → Prop := fun k => k = b ∨ v.ownBlock = some k

section
variable {T e sz : Nat} {w w' : World} {b : Nat} {v : Value} {room : Int} {n : Nat} {xs : List Value}
theorem RA.upd (h : RA T e sz w b v room n xs) {S : Nat → Prop} (hu : Upd S w w') (hb : ∀ k, Of b v k → ¬ S k) : RA T e sz w' b v room n xs :=
  ⟨hu.heap h.1 (hb b (.inl rfl)), ownsRow_upd h.2 hu (fun k hk => hb k (.inr hk))⟩
theorem RA.lt (h : RA T e sz w b v room n xs) : ∀ k, Of b v k → k < w.heap.size := by
  rintro k (rfl | hk)
  · exact lt_of_heap h.1
  · exact (h.2.lt k hk).2
theorem RA.c0 (h : RA T e sz w b v room n xs) : w.cell? ⟨b, 0, none⟩ = some v := by rw [blk_cell h.1]; rfl
theorem RA.c1 (h : RA T e sz w b v room n xs) : w.cell? ⟨b, 1, none⟩ = some (.int .i64 room) := by rw [blk_cell h.1]; rfl
theorem RA.f0 (h : RA T e sz w b v room n xs) : w.frozen? ⟨b, 0, none⟩ = false := blk_frozen h.1 0
theorem RA.slice (h : RA T e sz w b v room n xs) : ∃ a c, v = .slice a n c ∧ n ≤ c ∧ (c : Int) ≤ 9223372036854775807 := by
  rcases h.2.2 with ⟨rfl, rfl⟩ | ⟨g, cap, cur, rfl, _, _, hn, hm, _⟩
  · exact ⟨_, _, rfl, Nat.le_refl _, by omega⟩
  · exact ⟨_, _, rfl, hn, by simp only [maxLen] at hm; omega⟩
end

/-- The ring's blocks lie at B or behind it. -/
def Hi (B b : Nat) (v : Value) : Prop := ∀ k, Of b v k → B ≤ k
theorem Hi.same {B b : Nat} {v v' : Value} (h : Hi B b v) (e : v'.ownBlock = v.ownBlock) : Hi B b v' := fun k hk => h k (hk.imp id (fun h => by rw [← e]; exact h))
theorem Hi.new {B b : Nat} {v v' : Value} (h : Hi B b v) {s : Nat} (hs : B ≤ s) (e : v'.ownBlock = v.ownBlock ∨ ∃ g, v'.ownBlock = some g ∧ s ≤ g) : Hi B b v' := by
  rcases e with e | ⟨g, e, hg⟩
  · exact h.same e
  · rintro k (hk | hk)
    · exact h k (.inl hk)
    · rw [e] at hk
      have : g = k := by simpa using hk
      omega
theorem Hi.none {B b : Nat} (h : B ≤ b) : Hi B b (.slice Option.none 0 0) := by
  rintro k (rfl | hk)
  · exact h
  · simp [Value.ownBlock] at hk
theorem Upd.onto {S : Nat → Prop} {B : Nat} {w w1 w2 : World} (hu : Upd S w1 w2) (h : Below B w w1) (hB : B ≤ w1.heap.size) (hs : ∀ k, S k → B ≤ k) : Below B w w2 :=
  h.trans (hu.below hB (fun i hi h => by have := hs i h; omega))

/-! ### slices of integers that came in -/
/-- nil; or a row of 'cap' cells, of which the first 'len' are the elements. -/
def IsRow (k : IntKind) (w : World) (a : Option Addr) (len cap : Nat) (zs : List Int) : Prop :=
  (a = none ∧ len = 0 ∧ cap = 0 ∧ zs = []) ∨
  ∃ x, a = some x ∧ len ≤ cap ∧ cap ≤ maxLen ∧ zs.length = cap ∧ (∀ i, i < zs.length → w.cell? (x.add i) = some (.int k (zs.getD i 0))) ∧ ∀ n ∈ zs, (Lit.int k n).wf = true

/-- What a walk reads of a slice of integers: empty; or the address, and each element's cell, below the heap's end. -/
def Ints (k : IntKind) (B : Nat) (w : World) (a : Option Addr) (zs : List Int) : Prop :=
  zs = [] ∨ ∃ b off, a = some ⟨b, off, none⟩ ∧ b < B ∧ ∀ j (x : Int), zs[j]? = some x → w.cell? ⟨b, off + j, none⟩ = some (.int k x)

theorem IsRow.ints {k : IntKind} {w : World} {a : Option Addr} {len cap : Nat} {zs : List Int} (h : IsRow k w a len cap zs) :
    Ints k w.heap.size w a (zs.take len) ∧ (zs.take len).length = len ∧ len ≤ cap ∧ cap ≤ 9223372036854775807 ∧ ∀ n ∈ zs.take len, (Lit.int k n).wf = true := by
  rcases h with ⟨rfl, rfl, rfl, rfl⟩ | ⟨x, rfl, hl, hm, hz, hc, hw⟩
  · exact ⟨.inl rfl, rfl, Nat.le_refl _, by omega, by simp⟩
  · refine ⟨?_, by rw [List.length_take]; omega, hl, by simp only [maxLen] at hm; omega, fun n hn => hw n (List.mem_of_mem_take hn)⟩
    by_cases h0 : len = 0
    · exact .inl (by simp [h0])
    · refine .inr ?_
      obtain ⟨b, off, spot⟩ := x
      have hc0 := hc 0 (by omega)
      have hspot : spot = none := by simpa [Addr.add] using World.cell?_spot hc0
      subst hspot
      refine ⟨b, off, rfl, by simpa [Addr.add] using World.block_lt_of_cell? w _ hc0, fun j x hj => ?_⟩
      have hj' : j < zs.length := by have := (List.getElem?_eq_some_iff.1 hj).1; rw [List.length_take] at this; omega
      have := hc j hj'
      rw [Addr.add_lit] at this
      rw [this]
      rw [List.getElem?_take] at hj
      split at hj
      · simp [List.getD, hj]
      · cases hj

theorem Ints.below {k : IntKind} {B : Nat} {w w' : World} {a : Option Addr} {zs : List Int} (h : Ints k B w a zs) (hb : Below B w w') : Ints k B w' a zs := by
  rcases h with h | ⟨b, off, rfl, hlt, hc⟩
  · exact .inl h
  · exact .inr ⟨b, off, rfl, hlt, fun j x hj => (hb.cell (p := ⟨b, off + j, none⟩) hlt).trans (hc j x hj)⟩

theorem Ints.get {k : IntKind} {B : Nat} {w : World} {a : Option Addr} {zs : List Int} (h : Ints k B w a zs) {j : Nat} {x : Int} (hx : zs[j]? = some x) : ∃ b off, a = some ⟨b, off, none⟩ ∧ w.cell? ⟨b, off + j, none⟩ = some (.int k x) := by
  rcases h with rfl | ⟨b, off, rfl, _, hc⟩
  · simp at hx
  · exact ⟨b, off, rfl, hc j x hx⟩

/-! ### rows of things: each thing is k cells -/
section
variable {α : Type} (enc : α → List Value) (k : Nat) (hk : ∀ x, (enc x).length = k)
def cellsOf (zs : List α) : List Value := zs.flatMap enc
include hk
theorem cellsOf_length (zs : List α) : (cellsOf enc zs).length = zs.length * k := by
  induction zs with
  | nil => simp [cellsOf]
  | cons z r ih => simp only [cellsOf, List.flatMap_cons, List.length_append, hk, List.length_cons] at ih ⊢; rw [ih, Nat.add_mul]; omega
theorem cellsOf_drop (zs : List α) (i : Nat) : (cellsOf enc zs).drop (i * k) = cellsOf enc (zs.drop i) := by
  induction zs generalizing i with
  | nil => simp [cellsOf]
  | cons z r ih =>
    cases i with
    | zero => simp
    | succ i =>
      have e : (i + 1) * k = (enc z).length + i * k := by rw [hk, Nat.add_mul]; omega
      simp only [cellsOf, List.flatMap_cons, List.drop_succ_cons] at ih ⊢
      rw [e, List.drop_append, List.drop_of_length_le (by omega), List.nil_append, Nat.add_sub_cancel_left]
      exact ih i
theorem cellsOf_take (zs : List α) (i : Nat) : (cellsOf enc zs).take (i * k) = cellsOf enc (zs.take i) := by
  induction zs generalizing i with
  | nil => simp [cellsOf]
  | cons z r ih =>
    cases i with
    | zero => simp [cellsOf]
    | succ i =>
      have e : (i + 1) * k = (enc z).length + i * k := by rw [hk, Nat.add_mul]; omega
      simp only [cellsOf, List.flatMap_cons, List.take_succ_cons] at ih ⊢
      rw [e, List.take_length_add_append]
      rw [ih i]
theorem cellsOf_at (zs : List α) (i j : Nat) (x : α) (hx : zs[i]? = some x) (hj : j < k) : (cellsOf enc zs)[i * k + j]? = (enc x)[j]? := by
  have h := cellsOf_drop enc k hk zs i
  have hi : i < zs.length := (List.getElem?_eq_some_iff.1 hx).1
  have hx' : zs.drop i = x :: zs.drop (i + 1) := by rw [List.drop_eq_getElem_cons hi]; congr 1; exact (List.getElem?_eq_some_iff.1 hx).2
  rw [← List.getElem?_drop, h, hx', cellsOf, List.flatMap_cons, List.getElem?_append_left (by rw [hk]; exact hj)]
omit hk in
theorem cellsOf_append (zs ys : List α) : cellsOf enc (zs ++ ys) = cellsOf enc zs ++ cellsOf enc ys := by simp [cellsOf]
omit hk in
theorem cellsOf_one (x : α) : cellsOf enc [x] = enc x := by simp [cellsOf]
theorem cellsOf_erase (zs : List α) (i : Nat) : (cellsOf enc zs).take (i * k) ++ (cellsOf enc zs).drop ((i + 1) * k) = cellsOf enc (zs.eraseIdx i) := by
  rw [cellsOf_take enc k hk, cellsOf_drop enc k hk, List.eraseIdx_eq_take_drop_succ, cellsOf_append]
end

/-- append WHERE THERE IS ROOM in a row that is known whole, at a step of a region that draws. -/
theorem step_append_row {P : Program} {ops : Array Oper} {o : Oper} {a : Act} {w : World} {K : Act → World → Prop} {Q : Exit → Act → World → Prop} {E : Prop}
    (hg : o.guard = none) (s x : Operand) (t : TypeId) (hop : o.op = Op.call { callee := Callee.builtin Builtin.append, args := #[s, x], argTypes := #[t, t] })
    (e : TypeId) (i : TypeInfo) (size : Nat) (h1 : P.underlying t = some (.slice e)) (h2 : P.info? e = some i) (h4 : i.size = size)
    (g n cap : Nat) (cur : Array Value) (hs : a.eval s = .slice (some ⟨g, 0, none⟩) n cap) (hcur : w.heap[g]? = some (.cells cur e (0, 0)))
    (ad : Addr) (m c : Nat) (news : List Value) (hx : a.eval x = .slice (some ad) m c) (hn : news.length = m * size) (hc : ∀ j u, news[j]? = some u → w.cell? (ad.add j) = some u) (h1c : ∀ u ∈ news, u.oneCell' = true)
    (hroom : n + m ≤ cap) (hfit : n * size + news.length ≤ cur.size)
    (hK : K (a.put o.dst (.slice (some ⟨g, 0, none⟩) (n + m) cap)) (w.setRow g (cur.toList.take (n * size) ++ news ++ cur.toList.drop (n * size + news.length)).toArray)) :
    if Region.wanted o (yielded ops a.tmps) = true then Oper.wp P o a w K Q else E := by
  have hw : Region.wanted o (yielded ops a.tmps) = true := by simp [Region.wanted, hg]
  rw [if_pos hw]
  subst h4
  have hrun := run_append_room (P := P) w t o.type e i h1 h2 g n cap cur hcur ad m c news hn hc h1c hroom hfit
  unfold Oper.wp execOp
  simp only [hop, resolve, invoke, builtin, Sem.run_bind, Sem.run_pure, Result.andThen_ok, List.map_toArray, List.map_cons, List.map_nil, hs, hx, hrun]
  exact hK

theorem upd_setRow {S : Nat → Prop} {a b : World} (h : Upd S a b) (g : Nat) (cs : Array Value) (hp : g < a.heap.size → S g) : Upd S a (b.setRow g cs) :=
  ⟨h.os, h.tape, h.output, by simpa [World.setRow] using h.size, fun i hi hn => (setRow_other b g i _ (fun e => hn (by subst e; exact hp hi))).trans (h.block i hi hn)⟩

/-- A row of cells out of which the element i is taken, and one zero element laid behind. -/
theorem delete_row (cur zs news xs : List Value) (n i sz cap o : Nat) (hxs : cur.take (n * sz) = xs) (hcur : cur.length = cap * sz) (hnc : n ≤ cap) (hi : i < n) (hnews : news = xs.drop ((i + 1) * sz)) (ho : o = (n - 1) * sz) (hzs : zs.length = sz) :
    news.length = (n - (i + 1)) * sz ∧ i * sz + news.length ≤ cap * sz ∧ (cur.take (i * sz) ++ news ++ cur.drop (i * sz + news.length)).length = cap * sz ∧ o + zs.length ≤ cap * sz ∧
      ((cur.take (i * sz) ++ news ++ cur.drop (i * sz + news.length)).take o ++ zs ++ (cur.take (i * sz) ++ news ++ cur.drop (i * sz + news.length)).drop (o + zs.length)).length = cap * sz ∧
      ((cur.take (i * sz) ++ news ++ cur.drop (i * sz + news.length)).take o ++ zs ++ (cur.take (i * sz) ++ news ++ cur.drop (i * sz + news.length)).drop (o + zs.length)).take ((n - 1) * sz) = xs.take (i * sz) ++ news := by
  obtain ⟨k, rfl⟩ : ∃ k, n = i + 1 + k := ⟨n - (i + 1), by omega⟩
  have hge : (i + 1 + k) * sz ≤ cap * sz := Nat.mul_le_mul_right _ hnc
  have e1 : (i + 1 + k) * sz = i * sz + sz + k * sz := by rw [Nat.add_mul, Nat.add_mul, Nat.one_mul]
  have e2 : (i + 1 + k - 1) * sz = i * sz + k * sz := by rw [show i + 1 + k - 1 = i + k by omega, Nat.add_mul]
  have e3 : (i + 1) * sz = i * sz + sz := by rw [Nat.add_mul, Nat.one_mul]
  have e4 : (i + 1 + k - (i + 1)) * sz = k * sz := by rw [show i + 1 + k - (i + 1) = k by omega]
  rw [e1] at hge hxs
  rw [e2] at ho ⊢
  rw [e3] at hnews
  rw [e4]
  have hxl : xs.length = i * sz + sz + k * sz := by rw [← hxs, List.length_take]; omega
  have hnl : news.length = k * sz := by rw [hnews, List.length_drop]; omega
  have hx : xs.take (i * sz) = cur.take (i * sz) := by rw [← hxs, List.take_take]; congr 1; omega
  have htl : (cur.take (i * sz)).length = i * sz := by rw [List.length_take]; omega
  generalize i * sz = a at *
  generalize k * sz = b at *
  generalize cap * sz = c at *
  subst ho
  have h1 : (cur.take a ++ news ++ cur.drop (a + news.length)).take (a + b) = cur.take a ++ news := by
    rw [List.take_append_of_le_length (by rw [List.length_append]; omega), List.take_of_length_le (by rw [List.length_append]; omega)]
  refine ⟨hnl, by omega, by simp only [List.length_append, List.length_drop]; omega, by omega, by simp only [List.length_append, List.length_drop, List.length_take]; omega, ?_⟩
  rw [h1, hx, List.append_assoc, List.take_append_of_le_length (by rw [List.length_append]; omega), List.take_of_length_le (by rw [List.length_append]; omega)]

/-- 'clear(s)', s one element long and in a row that is known whole. -/
theorem run_clear_row {P : Program} (w : World) (t e ty : TypeId) (z : Value) (zs : List Value) (hzs : (Builtin.zeroCells z.cells 1).toList = zs) (ht : P.underlying t = some (.slice e)) (hv : ∀ w, (zeroValue e).run P w = .ok z w) (h1 : ∀ u ∈ zs, u.oneCell' = true) (g o m c : Nat) (hm : m = 1) (cur : Array Value) (hcur : w.heap[g]? = some (.cells cur e (0, 0)))
    (hfit : o + zs.length ≤ cur.size) :
    (Builtin.clear_ #[t] ty #[.slice (some ⟨g, o, none⟩) m c]).run P w = .ok (.tuple #[]) (w.setRow g (cur.toList.take o ++ zs ++ cur.toList.drop (o + zs.length)).toArray) := by
  subst hzs
  subst hm
  have hst := run_storeCells_at P g o e (Builtin.zeroCells z.cells 1).toList 0 cur w hcur (by simpa using hfit) h1
  simp only [Nat.add_zero] at hst
  simp [Builtin.clear_, run_underlying ht, hv, hst]

end Go.Proofs.YtehgbpepaakanaaDoor
