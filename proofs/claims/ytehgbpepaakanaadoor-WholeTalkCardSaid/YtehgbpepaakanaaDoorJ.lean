/-
  Air that is ours from a block on: the calls once more.
-/
import Derived.Test.YtehgbpepaakanaaDoorI
import Derived.Lib.SlBytesConst
import Derived.Laws.BytesArg
namespace Go.Proofs.YtehgbpepaakanaaDoor
open Go.RowKit
set_option linter.unusedVariables false
set_option maxRecDepth 20000
set_option linter.unusedSimpArgs false

/-- Air none of whose blocks lies in N, a set of blocks that are there. -/
def AirHi (N : Nat → Prop) (w : World) (A : Nat) (room : Int) (st : Nat → List Lt) : Prop := ∃ P, AirAt w P A room st ∧ (∀ k, P k → ¬ N k) ∧ (∀ k, N k → k < w.heap.size) ∧ 0 < room ∧ room ≤ 1000
/-- The blocks of N are as they were. -/
def Kept (N : Nat → Prop) (w w' : World) : Prop := Upd (fun k => ¬ N k) w w'
theorem Kept.trans {N : Nat → Prop} {a b c : World} (h : Kept N a b) (k : Kept N b c) : Kept N a c := Upd.trans h k (fun _ _ h => h)
theorem Kept.heap {N : Nat → Prop} {a b : World} (h : Kept N a b) {g : Nat} {o : Obj} (hg : a.heap[g]? = some o) (hn : N g) : b.heap[g]? = some o := Upd.heap h hg (fun k => k hn)
theorem Kept.of_below {N : Nat → Prop} {a b : World} (h : Below a.heap.size a b) : Kept N a b := Upd.of_below h _
theorem Kept.less {N N' : Nat → Prop} {a b : World} (h : Kept N a b) (hn : ∀ k, N' k → N k) : Kept N' a b := Upd.mono h (fun k _ h h' => h (hn k h'))
theorem Kept.refl (N : Nat → Prop) (a : World) : Kept N a a := Upd.refl _ a
theorem Kept.below {N : Nat → Prop} {B : Nat} {a b : World} (h : Kept N a b) (hB : B ≤ a.heap.size) (hn : ∀ k, k < B → N k) : Below B a b := Upd.below h hB (fun i hi h' => h' (hn i hi))

theorem AirHi.below {N : Nat → Prop} {w w' : World} {A : Nat} {room : Int} {st : Nat → List Lt} (h : AirHi N w A room st) (hb : Below w.heap.size w w') : AirHi N w' A room st := by
  obtain ⟨P, h1, h2, h3, h4⟩ := h
  exact ⟨P, h1.below hb, h2, fun k hk => Nat.lt_of_lt_of_le (h3 k hk) hb.size, h4⟩
theorem AirHi.up {N : Nat → Prop} {w w' : World} {A : Nat} {room : Int} {st : Nat → List Lt} (h : AirHi N w A room st) (hb : Below w.heap.size w w') : AirHi N w' A room st ∧ Kept N w w' := ⟨h.below hb, Kept.of_below hb⟩
theorem AirHi.turned {N : Nat → Prop} {w w' : World} {P P' : Nat → Prop} {A : Nat} {room : Int} {st' : Nat → List Lt} (h1 : AirAt w' P' A room st') (h2 : ∀ k, P k → ¬ N k) (h3 : ∀ k, N k → k < w.heap.size) (hr : 0 < room) (hr2 : room ≤ 1000) (hu : Upd P w w') (h4 : ∀ k, P' k → P k ∨ w.heap.size ≤ k) : AirHi N w' A room st' ∧ Kept N w w' :=
  ⟨⟨P', h1, fun k h hn => (h4 k h).elim (fun h => h2 k h hn) (fun h => by have := h3 k hn; omega), fun k hk => Nat.lt_of_lt_of_le (h3 k hk) hu.size, hr, hr2⟩, hu.mono (fun k _ h => h2 k h)⟩
theorem AirHi.less {N N' : Nat → Prop} {w : World} {A : Nat} {room : Int} {st : Nat → List Lt} (h : AirHi N w A room st) (hn : ∀ k, N' k → N k) : AirHi N' w A room st := by
  obtain ⟨P, h1, h2, h3, h4⟩ := h
  exact ⟨P, h1, fun k hk h => h2 k hk (hn k h), fun k hk => h3 k (hn k hk), h4⟩
/-- New blocks are none of the air's. -/
theorem AirHi.add {N : Nat → Prop} {w w' : World} {A : Nat} {room : Int} {st : Nat → List Lt} (h : AirHi N w A room st) (hb : Below w.heap.size w w') (M : Nat → Prop) (hM : ∀ k, M k → w.heap.size ≤ k ∧ k < w'.heap.size) : AirHi (fun k => N k ∨ M k) w' A room st := by
  obtain ⟨P, ⟨b, v, L, h0, hP, hst⟩, h2, h3, h4⟩ := h
  refine ⟨Blocks A b v L, ⟨b, v, L, h0.keep (Upd.of_below hb (fun _ => False)) (fun _ _ h => h), fun _ h => h, hst⟩, fun k hk hn => ?_, fun k hk => ?_, h4⟩
  · have := h0.lt hk
    rcases hn with hn | hn
    · exact h2 k (hP k hk) hn
    · have := (hM k hn).1; omega
  · rcases hk with hk | hk
    · exact Nat.lt_of_lt_of_le (h3 k hk) hb.size
    · exact (hM k hk).2
theorem BR.kept {N : Nat → Prop} {w w' : World} {a : Option Addr} {m d : Nat} {bs : List Int} (h : BR w a m d bs) (hk : Kept N w w') (hn : ∀ g, (Value.slice a m d).ownBlock = some g → N g) : BR w' a m d bs := by
  rcases h with h | ⟨b, off, rfl, hlt, hl, hd, hm, hc⟩
  · exact .inl h
  · have hg : N b := hn b rfl
    have hsz : w.heap.size ≤ w'.heap.size := Upd.size hk
    refine .inr ⟨b, off, rfl, Nat.lt_of_lt_of_le hlt hsz, hl, hd, hm, fun j x hx => ?_⟩
    have h1 : w.heap[b]? = some w.heap[b] := Array.getElem?_eq_getElem hlt
    have h2 := hk.heap h1 hg
    rw [← hc j x hx]
    simp only [World.cell?, h1, h2]

section
variable {N : Nat → Prop} {w : World} {A : Nat} {room : Int} {st : Nat → List Lt}
theorem new_hi (room : Int) (w : World) (h1 : 1 ≤ room) (h2 : room ≤ 1000) : Calls Tryd.prog 7 #[.int .i64 room] w fun e w' => ∃ A, e = .returned (.pointer (some ⟨A, 0, none⟩)) ∧ AirHi (fun k => k < w.heap.size) w' A room (fun _ => []) ∧ Below w.heap.size w w' := by
  refine (aNew room w h1 h2).mono ?_
  rintro e w' ⟨A, rfl, h, hB⟩
  exact ⟨A, rfl, ⟨_, h, fun k h h' => by omega, fun k hk => Nat.lt_of_lt_of_le hk hB.size, h1, h2⟩, hB⟩

theorem send_hi (f : Int) (t : Nat) (a : Option Addr) (m d : Nat) (bs : List Int) (h : AirHi N w A room st) (ht : t < 17) (hf : f < 17) (hm : m ≤ 4000) (hbs : BR w a m d bs) (hn : ((st t).length : Int) < room) :
    Calls Tryd.prog 9 #[.pointer (some ⟨A, 0, none⟩), .agg #[.int .u8 f, .int .u8 t, .slice a m d]] w fun e w' => e = .returned (.int .i64 0) ∧ AirHi N w' A room (upd st t (st t ++ [⟨f, t, bs⟩])) ∧ Kept N w w' := by
  obtain ⟨P, h1, h2, h3, hr, hr2⟩ := h
  refine (send_ok P A room st f t a m d bs w h1 hr hr2 ht hf hm hbs hn).mono ?_
  rintro e w' ⟨rfl, P', h4, hu, h5⟩
  exact ⟨rfl, AirHi.turned h4 h2 h3 hr hr2 hu h5⟩
theorem send_full_hi (f : Int) (t : Nat) (a : Option Addr) (m d : Nat) (bs : List Int) (h : AirHi N w A room st) (ht : t < 17) (hf : f < 17) (hm : m ≤ 4000) (hbs : BR w a m d bs) (hn : room ≤ ((st t).length : Int)) :
    Calls Tryd.prog 9 #[.pointer (some ⟨A, 0, none⟩), .agg #[.int .u8 f, .int .u8 t, .slice a m d]] w fun e w' => e = .returned (.int .i64 6) ∧ AirHi N w' A room st ∧ Kept N w w' := by
  obtain ⟨P, h1, h2, h3, hr, hr2⟩ := id h
  refine (send_full P A room st f t a m d bs w h1 hr ht hf hm hbs hn).mono ?_
  rintro e w' ⟨rfl, hb⟩
  exact ⟨rfl, h.up hb⟩
theorem send_from_hi (f : Int) (t : Nat) (a : Option Addr) (m d : Nat) (h : AirHi N w A room st) (ht : t < 17) (hf : 17 ≤ f) :
    Calls Tryd.prog 9 #[.pointer (some ⟨A, 0, none⟩), .agg #[.int .u8 f, .int .u8 t, .slice a m d]] w fun e w' => e = .returned (.int .i64 2) ∧ AirHi N w' A room st ∧ Kept N w w' := by
  obtain ⟨P, h1, h2, h3, hr, hr2⟩ := id h
  refine (send_from P A room st f t a m d w h1 ht hf).mono ?_
  rintro e w' ⟨rfl, hb⟩
  exact ⟨rfl, h.up hb⟩
theorem send_big_hi (f : Int) (t : Nat) (a : Option Addr) (m d : Nat) (h : AirHi N w A room st) (ht : t < 17) (hf : f < 17) (hm : 4000 < m) :
    Calls Tryd.prog 9 #[.pointer (some ⟨A, 0, none⟩), .agg #[.int .u8 f, .int .u8 t, .slice a m d]] w fun e w' => e = .returned (.int .i64 3) ∧ AirHi N w' A room st ∧ Kept N w w' := by
  obtain ⟨P, h1, h2, h3, hr, hr2⟩ := id h
  refine (send_big P A room st f t a m d w h1 ht hf hm).mono ?_
  rintro e w' ⟨rfl, hb⟩
  exact ⟨rfl, h.up hb⟩
theorem send_arg_hi (f : Int) (t : Nat) (a : Option Addr) (m d : Nat) (h : AirHi N w A room st) (ht : 17 ≤ t) (ht2 : t ≤ 255) :
    Calls Tryd.prog 9 #[.pointer (some ⟨A, 0, none⟩), .agg #[.int .u8 f, .int .u8 t, .slice a m d]] w fun e w' => e = .returned (.int .i64 2) ∧ AirHi N w' A room st ∧ Kept N w w' := by
  obtain ⟨P, h1, h2, h3, hr, hr2⟩ := id h
  refine (send_arg P A room st f t a m d w h1 ht ht2).mono ?_
  rintro e w' ⟨rfl, hb⟩
  exact ⟨rfl, h.up hb⟩

theorem AirHi.lookErr (h : AirHi N w A room st) (t : Nat) (ht2 : t ≤ 255) (i : Int) (hi : t < 17 → i < 0 ∨ ((st t).length : Int) ≤ i) : LookErr (some ⟨A, 0, none⟩) t i (if t < 17 then 7 else 2) w := by
  obtain ⟨P, h1, h2, h3, hr, hr2⟩ := id h
  by_cases ht : t < 17
  · rw [if_pos ht]; exact lookErr_none P A room st t i w h1 hr hr2 ht (hi ht)
  · rw [if_neg ht]; exact lookErr_arg P A room st t i w h1 (by omega) ht2
theorem errne (t : Nat) : (if t < 17 then (7 : Int) else 2) ≠ 0 := by by_cases h : t < 17 <;> simp [h]
theorem take_err_hi (t : Nat) (i : Int) (h : AirHi N w A room st) (ht2 : t ≤ 255) (hi : t < 17 → i < 0 ∨ ((st t).length : Int) ≤ i) :
    Calls Tryd.prog 12 #[.pointer (some ⟨A, 0, none⟩), .int .u8 t, .int .i64 i] w fun e w' => e = .returned (.tuple #[.agg #[.int .u8 0, .int .u8 0, .slice none 0 0], .int .i64 (if t < 17 then 7 else 2)]) ∧ AirHi N w' A room st ∧ Kept N w w' := by
  refine (take_err _ _ _ _ w (errne t) (fun w1 hb => (h.below hb).lookErr t ht2 i hi)).mono ?_
  rintro e w' ⟨rfl, hb⟩
  exact ⟨rfl, h.up hb⟩
theorem again_err_hi (t : Nat) (i : Int) (h : AirHi N w A room st) (ht2 : t ≤ 255) (hi : t < 17 → i < 0 ∨ ((st t).length : Int) ≤ i) :
    Calls Tryd.prog 10 #[.pointer (some ⟨A, 0, none⟩), .int .u8 t, .int .i64 i] w fun e w' => e = .returned (.int .i64 (if t < 17 then 7 else 2)) ∧ AirHi N w' A room st ∧ Kept N w w' := by
  refine (again_err _ _ _ _ w (errne t) (h.lookErr t ht2 i hi)).mono ?_
  rintro e w' ⟨rfl, hb⟩
  exact ⟨rfl, h.up hb⟩
theorem turn_err_hi (t : Nat) (i pl z : Int) (h : AirHi N w A room st) (ht2 : t ≤ 255) (hi : t < 17 → i < 0 ∨ ((st t).length : Int) ≤ i) :
    Calls Tryd.prog 11 #[.pointer (some ⟨A, 0, none⟩), .int .u8 t, .int .i64 i, .int .u16 pl, .int .u8 z] w fun e w' => e = .returned (.int .i64 (if t < 17 then 7 else 2)) ∧ AirHi N w' A room st ∧ Kept N w w' := by
  refine (turn_err _ _ _ _ _ _ w (errne t) (h.lookErr t ht2 i hi)).mono ?_
  rintro e w' ⟨rfl, hb⟩
  exact ⟨rfl, h.up hb⟩
theorem take_hi (t i : Nat) (x : Lt) (h : AirHi N w A room st) (ht : t < 17) (hx : (st t)[i]? = some x) :
    Calls Tryd.prog 12 #[.pointer (some ⟨A, 0, none⟩), .int .u8 t, .int .i64 i] w fun e w' => ∃ a m d, e = .returned (.tuple #[.agg #[.int .u8 x.f, .int .u8 x.t, .slice a m d], .int .i64 0]) ∧ BS w' (.slice a m d) x.bs ∧ AirHi (fun k => N k ∨ (Value.slice a m d).ownBlock = some k) w' A room (upd st t ((st t).eraseIdx i)) ∧ Kept N w w' := by
  obtain ⟨P, h1, h2, h3, hr, hr2⟩ := h
  refine (take_air P A room st t i x w h1 hr hr2 ht hx).mono ?_
  rintro e w' ⟨a, m, d, rfl, hS, P', h4, hu, h5, h6⟩
  have hd := AirHi.turned h4 h2 h3 hr hr2 hu (fun k h => .inl (h5 k h))
  refine ⟨a, m, d, rfl, hS, ⟨P', h4, fun k hk hn => ?_, fun k hk => ?_, hr, hr2⟩, hd.2⟩
  · rcases hn with hn | hn
    · exact h2 k (h5 k hk) hn
    · exact h6 k hn hk
  · rcases hk with hk | hk
    · exact Nat.lt_of_lt_of_le (h3 k hk) hu.size
    · exact hS.lt k hk
theorem BS.readS {a : Option Addr} {m d : Nat} {bs : List Int} (h : BS w (.slice a m d) bs) : BR w a m d bs := by
  obtain ⟨a', d', e⟩ := h.slice
  cases e
  exact h.read
theorem again_hi (t i : Nat) (x : Lt) (h : AirHi N w A room st) (ht : t < 17) (hx : (st t)[i]? = some x) (hm : x.bs.length ≤ 4000) (hn : ((st t).length : Int) < room) :
    Calls Tryd.prog 10 #[.pointer (some ⟨A, 0, none⟩), .int .u8 t, .int .i64 i] w fun e w' => e = .returned (.int .i64 0) ∧ AirHi N w' A room (upd st t (st t ++ [x])) ∧ Kept N w w' := by
  obtain ⟨P, h1, h2, h3, hr, hr2⟩ := h
  refine (again_ok P A room st t i x w h1 hr hr2 ht hx hm hn).mono ?_
  rintro e w' ⟨rfl, P', h4, hu, h5⟩
  exact ⟨rfl, AirHi.turned h4 h2 h3 hr hr2 hu h5⟩
theorem again_full_hi (t i : Nat) (x : Lt) (h : AirHi N w A room st) (ht : t < 17) (hx : (st t)[i]? = some x) (hm : x.bs.length ≤ 4000) (hn : room ≤ ((st t).length : Int)) :
    Calls Tryd.prog 10 #[.pointer (some ⟨A, 0, none⟩), .int .u8 t, .int .i64 i] w fun e w' => e = .returned (.int .i64 6) ∧ AirHi N w' A room st ∧ Kept N w w' := by
  obtain ⟨P, h1, h2, h3, hr, hr2⟩ := id h
  refine (again_full P A room st t i x w h1 hr hr2 ht hx hm hn).mono ?_
  rintro e w' ⟨rfl, hb⟩
  exact ⟨rfl, h.up hb⟩
theorem turn_hi (t i : Nat) (x : Lt) (pl : Nat) (z : Int) (h : AirHi N w A room st) (ht : t < 17) (hx : (st t)[i]? = some x) (hm : x.bs ≠ []) (hm2 : x.bs.length ≤ 4000) (hpl : pl < 65536) :
    Calls Tryd.prog 11 #[.pointer (some ⟨A, 0, none⟩), .int .u8 t, .int .i64 i, .int .u16 pl, .int .u8 z] w fun e w' => e = .returned (.int .i64 0) ∧ AirHi N w' A room (upd st t ((st t).set i (x.turn pl z))) ∧ Kept N w w' := by
  obtain ⟨P, h1, h2, h3, hr, hr2⟩ := h
  refine (turn_air P A room st t i x pl z w h1 hr hr2 ht hx hm hm2 hpl).mono ?_
  rintro e w' ⟨rfl, P', h4, hu, h5⟩
  exact ⟨rfl, AirHi.turned h4 h2 h3 hr hr2 hu h5⟩
theorem turn_none_hi (t i : Nat) (x : Lt) (pl z : Int) (h : AirHi N w A room st) (ht : t < 17) (hx : (st t)[i]? = some x) (hm : x.bs = []) :
    Calls Tryd.prog 11 #[.pointer (some ⟨A, 0, none⟩), .int .u8 t, .int .i64 i, .int .u16 pl, .int .u8 z] w fun e w' => e = .returned (.int .i64 7) ∧ AirHi N w' A room st ∧ Kept N w w' := by
  obtain ⟨P, h1, h2, h3, hr, hr2⟩ := id h
  refine (turn_none P A room st t i x pl z w h1 hr hr2 ht hx hm).mono ?_
  rintro e w' ⟨rfl, hb⟩
  exact ⟨rfl, h.up hb⟩
theorem len_hi (t : Nat) (h : AirHi N w A room st) (ht : t < 17) :
    Calls Tryd.prog 18 #[.pointer (some ⟨A, 0, none⟩), .int .u8 t] w fun e w' => e = .returned (.int .i64 ((st t).length : Nat)) ∧ w = w' := by
  obtain ⟨P, h1, h2, h3, hr, hr2⟩ := id h
  exact aLen P A room st t w h1 hr ht
end

/-- string(b). -/
theorem BR.str {w : World} {a : Option Addr} {m d : Nat} {bs : List Int} (h : BR w a m d bs) : (convert 28 9 (.slice a m d)).run Tryd.prog w = .ok (.string (strOfNums bs)) w := by
  rcases h with ⟨rfl, rfl, rfl⟩ | ⟨b, off, rfl, hlt, hl, hd, hdm, hc⟩
  · rw [run_convert_bytes_string w 28 9 5 _ 0 0 Tryd.underlying28 Tryd.underlying5 Tryd.underlying9]
    cases a <;> simp [Conv.bytesToString, loadCells]
    all_goals rfl
  · refine run_convert_bytes_arg w 28 5 Tryd.underlying28 Tryd.underlying5 b off m d bs hl (fun i hi => ?_) 9 Tryd.underlying9
    exact hc i _ (by rw [List.getD_eq_getElem?_getD, List.getElem?_eq_getElem (by omega)]; rfl)

end Go.Proofs.YtehgbpepaakanaaDoor
