/-
  The contracts in one word each: for all arguments, what a call hands back as a function of them.
-/
import Derived.Test.YtkknpomdleekoaaD
namespace Go.Proofs.Ytkknpomdleekoaa
open Go.RowKit
set_option linter.unusedVariables false
set_option linter.unusedSimpArgs false

def rightB (d s u c : Int) : Bool := decide (Ok d s u c)
def overB (d s u c now : Int) : Bool := decide (Ok d s u c ∧ d ≤ now)
def lastI (d s u c : Int) : Int := if Ok d s u c then d + (c - u) * s else 0
def extD (d s u c now : Int) : Int := if Ok d s u c ∧ now < d ∧ u ≠ c then d + s else d
def extU (d s u c now : Int) : Int := if Ok d s u c ∧ now < d ∧ u ≠ c then u + 1 else u
def extE (d s u c now : Int) : Int := if Ok d s u c then (if d ≤ now then 11 else if u = c then 12 else 0) else 2
def newOk (now span most : Int) : Prop := Ok (now + span) span 0 most ∧ 0 ≤ now ∧ now ≤ 1099511627776
instance newDec (now span most : Int) : Decidable (newOk now span most) := by unfold newOk; infer_instance
def newD (now span most : Int) : Int := if newOk now span most then now + span else 0
def newS (now span most : Int) : Int := if newOk now span most then span else 0
def newC (now span most : Int) : Int := if newOk now span most then most else 0
def newE (now span most : Int) : Int := if newOk now span most then 0 else if 0 ≤ now ∧ now ≤ 1099511627776 ∧ 1 ≤ span ∧ span ≤ 1048576 ∧ 0 ≤ most ∧ most ≤ 100 then 3 else 2
def agI (zs : List Int) (least most : Int) : Int := if (1 ≤ least ∧ least ≤ most ∧ most ≤ 1048576) ∧ zs ≠ [] then Ag zs least most else 0
def agE (zs : List Int) (least most : Int) : Int := if 1 ≤ least ∧ least ≤ most ∧ most ≤ 1048576 then (if zs = [] then 7 else 0) else 2

theorem right_any (d s u c : Int) (w : World) : Calls Try.prog 13 #[T d s u c] w fun e w' => e = .returned (.bool (rightB d s u c)) ∧ Below w.heap.size w w' := by
  by_cases h : Ok d s u c
  · rw [show rightB d s u c = true by simp [rightB, h]]; exact right_yes d s u c w h
  · rw [show rightB d s u c = false by simp [rightB, h]]; exact right_no d s u c w h
theorem over_any (d s u c now : Int) (w : World) : Calls Try.prog 15 #[T d s u c, .int .i64 now] w fun e w' => e = .returned (.bool (overB d s u c now)) ∧ Below w.heap.size w w' := by
  by_cases h : Ok d s u c
  · rw [show overB d s u c now = decide (d ≤ now) by simp [overB, h]]; exact over_is d s u c now w h
  · rw [show overB d s u c now = false by simp [overB, h]]; exact over_no d s u c now w h
theorem last_any (d s u c : Int) (w : World) : Calls Try.prog 17 #[T d s u c] w fun e w' => e = .returned (.int .i64 (lastI d s u c)) ∧ Below w.heap.size w w' := by
  by_cases h : Ok d s u c
  · rw [show lastI d s u c = d + (c - u) * s by simp [lastI, h]]; exact last_is d s u c w h
  · rw [show lastI d s u c = 0 by simp [lastI, h]]; exact last_no d s u c w h
theorem extend_any (d s u c now : Int) (w : World) : Calls Try.prog 11 #[T d s u c, .int .i64 now] w fun e w' => e = .returned (.tuple #[T (extD d s u c now) s (extU d s u c now) c, .int .i64 (extE d s u c now)]) ∧ Below w.heap.size w w' := by
  by_cases h : Ok d s u c
  · by_cases hl : d ≤ now
    · have hl' : ¬ now < d := by omega
      rw [show extD d s u c now = d by simp [extD, hl'], show extU d s u c now = u by simp [extU, hl'], show extE d s u c now = 11 by simp [extE, h, hl]]; exact extend_late d s u c now w h hl
    · have hl' : now < d := by omega
      by_cases hu : u = c
      · subst hu; rw [show extD d s u u now = d by simp [extD], show extU d s u u now = u by simp [extU], show extE d s u u now = 12 by simp [extE, h, hl]]; exact extend_cap d s u u now w h hl' rfl
      · rw [show extD d s u c now = d + s by simp [extD, h, hl', hu], show extU d s u c now = u + 1 by simp [extU, h, hl', hu], show extE d s u c now = 0 by simp [extE, h, hl, hu]]; exact extend_ok d s u c now w h hl' hu
  · rw [show extD d s u c now = d by simp [extD, h], show extU d s u c now = u by simp [extU, h], show extE d s u c now = 2 by simp [extE, h]]; exact extend_bad d s u c now w h
theorem new_any (now span most : Int) (w : World) : Calls Try.prog 19 #[.int .i64 now, .int .i64 span, .int .i64 most] w fun e w' => e = .returned (.tuple #[T (newD now span most) (newS now span most) 0 (newC now span most), .int .i64 (newE now span most)]) ∧ Below w.heap.size w w' := by
  by_cases h : newOk now span most
  · rw [show newD now span most = now + span by simp [newD, h], show newS now span most = span by simp [newS, h], show newC now span most = most by simp [newC, h], show newE now span most = 0 by simp [newE, h]]; exact new_ok now span most w h.1
  · rw [show newD now span most = 0 by simp [newD, h], show newS now span most = 0 by simp [newS, h], show newC now span most = 0 by simp [newC, h]]
    by_cases ha : 0 ≤ now ∧ now ≤ 1099511627776 ∧ 1 ≤ span ∧ span ≤ 1048576 ∧ 0 ≤ most ∧ most ≤ 100
    · rw [show newE now span most = 3 by rw [newE, if_neg h, if_pos ha]]; exact new_big now span most w ha (fun hk => h ⟨hk, ha.1, ha.2.1⟩)
    · rw [show newE now span most = 2 by rw [newE, if_neg h, if_neg ha]]; exact new_arg now span most w ha
theorem agree_any (a : Option Addr) (len cap : Nat) (zs : List Int) (least most : Int) (w : World) (h : Ints .i64 w.heap.size w a zs) (hl : zs.length = len) (hc : len ≤ cap) (hm : cap ≤ 9223372036854775807) :
    Calls Try.prog 21 #[.slice a len cap, .int .i64 least, .int .i64 most] w fun e w' => e = .returned (.tuple #[.int .i64 (agI zs least most), .int .i64 (agE zs least most)]) ∧ w = w' := by
  by_cases ha : 1 ≤ least ∧ least ≤ most ∧ most ≤ 1048576
  · by_cases hz : zs = []
    · rw [show agI zs least most = 0 by simp [agI, hz], show agE zs least most = 7 by rw [agE, if_pos ha, if_pos hz]]
      subst hz
      simp at hl
      subst hl
      exact agree_none a cap least most w ha.1 ha.2.1 ha.2.2
    · rw [show agI zs least most = Ag zs least most by rw [agI, if_pos ⟨ha, hz⟩], show agE zs least most = 0 by rw [agE, if_pos ha, if_neg hz]]
      exact agree_is a len cap zs least most w h hl hc hm (by have := List.length_pos_iff.2 hz; omega) ha.1 ha.2.1 ha.2.2
  · rw [show agI zs least most = 0 by rw [agI, if_neg (fun hh => ha hh.1)], show agE zs least most = 2 by rw [agE, if_neg ha]]
    exact agree_arg a len cap least most w ha

theorem rright_any (d s u c : Int) (w : World) : Calls Try.prog 14 #[T d s u c] w fun e w' => e = .returned (.bool (rightB d s u c)) ∧ Below w.heap.size w w' := by
  by_cases h : Ok d s u c
  · rw [show rightB d s u c = true by simp [rightB, h]]; exact rright_yes d s u c w h
  · rw [show rightB d s u c = false by simp [rightB, h]]; exact rright_no d s u c w h
theorem rover_any (d s u c now : Int) (w : World) : Calls Try.prog 16 #[T d s u c, .int .i64 now] w fun e w' => e = .returned (.bool (overB d s u c now)) ∧ Below w.heap.size w w' := by
  by_cases h : Ok d s u c
  · rw [show overB d s u c now = decide (d ≤ now) by simp [overB, h]]; exact rover_is d s u c now w h
  · rw [show overB d s u c now = false by simp [overB, h]]; exact rover_no d s u c now w h
theorem rlast_any (d s u c : Int) (w : World) : Calls Try.prog 18 #[T d s u c] w fun e w' => e = .returned (.int .i64 (lastI d s u c)) ∧ Below w.heap.size w w' := by
  by_cases h : Ok d s u c
  · rw [show lastI d s u c = d + (c - u) * s by simp [lastI, h]]; exact rlast_is d s u c w h
  · rw [show lastI d s u c = 0 by simp [lastI, h]]; exact rlast_no d s u c w h
theorem rextend_any (d s u c now : Int) (w : World) : Calls Try.prog 12 #[T d s u c, .int .i64 now] w fun e w' => e = .returned (.tuple #[T (extD d s u c now) s (extU d s u c now) c, .int .i64 (extE d s u c now)]) ∧ Below w.heap.size w w' := by
  by_cases h : Ok d s u c
  · by_cases hl : d ≤ now
    · have hl' : ¬ now < d := by omega
      rw [show extD d s u c now = d by simp [extD, hl'], show extU d s u c now = u by simp [extU, hl'], show extE d s u c now = 11 by simp [extE, h, hl]]; exact rextend_late d s u c now w h hl
    · have hl' : now < d := by omega
      by_cases hu : u = c
      · subst hu; rw [show extD d s u u now = d by simp [extD], show extU d s u u now = u by simp [extU], show extE d s u u now = 12 by simp [extE, h, hl]]; exact rextend_cap d s u u now w h hl' rfl
      · rw [show extD d s u c now = d + s by simp [extD, h, hl', hu], show extU d s u c now = u + 1 by simp [extU, h, hl', hu], show extE d s u c now = 0 by simp [extE, h, hl, hu]]; exact rextend_ok d s u c now w h hl' hu
  · rw [show extD d s u c now = d by simp [extD, h], show extU d s u c now = u by simp [extU, h], show extE d s u c now = 2 by simp [extE, h]]; exact rextend_bad d s u c now w h
theorem rnew_any (now span most : Int) (w : World) : Calls Try.prog 20 #[.int .i64 now, .int .i64 span, .int .i64 most] w fun e w' => e = .returned (.tuple #[T (newD now span most) (newS now span most) 0 (newC now span most), .int .i64 (newE now span most)]) ∧ Below w.heap.size w w' := by
  by_cases h : newOk now span most
  · rw [show newD now span most = now + span by simp [newD, h], show newS now span most = span by simp [newS, h], show newC now span most = most by simp [newC, h], show newE now span most = 0 by simp [newE, h]]; exact rnew_ok now span most w h.1
  · rw [show newD now span most = 0 by simp [newD, h], show newS now span most = 0 by simp [newS, h], show newC now span most = 0 by simp [newC, h]]
    by_cases ha : 0 ≤ now ∧ now ≤ 1099511627776 ∧ 1 ≤ span ∧ span ≤ 1048576 ∧ 0 ≤ most ∧ most ≤ 100
    · rw [show newE now span most = 3 by rw [newE, if_neg h, if_pos ha]]; exact rnew_big now span most w ha (fun hk => h ⟨hk, ha.1, ha.2.1⟩)
    · rw [show newE now span most = 2 by rw [newE, if_neg h, if_neg ha]]; exact rnew_arg now span most w ha
theorem ragree_any (a : Option Addr) (len cap : Nat) (zs : List Int) (least most : Int) (w : World) (h : Ints .i64 w.heap.size w a zs) (hl : zs.length = len) (hc : len ≤ cap) (hm : cap ≤ 9223372036854775807) :
    Calls Try.prog 22 #[.slice a len cap, .int .i64 least, .int .i64 most] w fun e w' => e = .returned (.tuple #[.int .i64 (agI zs least most), .int .i64 (agE zs least most)]) ∧ w = w' := by
  by_cases ha : 1 ≤ least ∧ least ≤ most ∧ most ≤ 1048576
  · by_cases hz : zs = []
    · rw [show agI zs least most = 0 by simp [agI, hz], show agE zs least most = 7 by rw [agE, if_pos ha, if_pos hz]]
      subst hz
      simp at hl
      subst hl
      exact ragree_none a cap least most w ha.1 ha.2.1 ha.2.2
    · rw [show agI zs least most = Ag zs least most by rw [agI, if_pos ⟨ha, hz⟩], show agE zs least most = 0 by rw [agE, if_pos ha, if_neg hz]]
      exact ragree_is a len cap zs least most w h hl hc hm (by have := List.length_pos_iff.2 hz; omega) ha.1 ha.2.1 ha.2.2
  · rw [show agI zs least most = 0 by rw [agI, if_neg (fun hh => ha hh.1)], show agE zs least most = 2 by rw [agE, if_neg ha]]
    exact ragree_arg a len cap least most w ha

theorem cells_keep {w w' : World} {a : Addr} {v : Value} (hb : Below w.heap.size w w') (h : w.cell? a = some v) : w'.cell? a = some v := (hb.cell (World.block_lt_of_cell? w a h)).trans h
theorem below_go {w w1 w2 : World} (k : Below w1.heap.size w1 w2) (h : Below w.heap.size w w1) : Below w.heap.size w w2 := h.trans (k.mono h.size)
theorem below_end {w w1 w2 : World} (h : Below w.heap.size w w1) (k : Below w1.heap.size w1 w2) : Below w.heap.size w w2 := h.trans (k.mono h.size)

end Go.Proofs.Ytkknpomdleekoaa
