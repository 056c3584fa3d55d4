/-
  TermsSuit: the walk.
-/
import Derived.Test.YtkknpomdleekoaaBegin
namespace Go.Proofs.Ytkknpomdleekoaa
open Go.RowKit
set_option linter.unusedVariables false
set_option linter.unusedSimpArgs false

theorem ag_facts (zs : List Int) (least most : Int) (h1 : 1 ≤ least) (h2 : least ≤ most) (h3 : most ≤ 1048576) (hz : zs ≠ []) :
    least ≤ Ag zs least most ∧ Ag zs least most ≤ most ∧ (∀ (j : Nat) (x : Int), zs[j]? = some x → x ≤ most → x ≤ Ag zs least most) ∧ (Ag zs least most = least ∨ Ag zs least most = most ∨ ∃ j : Nat, zs[j]? = some (Ag zs least most)) := by
  have hp := List.length_pos_iff.2 hz
  obtain ⟨j, hj, he⟩ := M_in zs (zs.length - 1)
  refine ⟨by unfold Ag; omega, by unfold Ag; omega, fun i x hx hle => ?_, ?_⟩
  · have hi := (List.getElem?_eq_some_iff.1 hx).1
    have := M_ge zs (zs.length - 1) i (by omega)
    rw [hx] at this
    simp at this
    unfold Ag
    omega
  · have hjl : j < zs.length := by omega
    have hs : zs[j]? = some (M zs (zs.length - 1)) := by rw [he, List.getElem?_eq_getElem hjl]; simp
    by_cases c1 : M zs (zs.length - 1) ≤ least
    · left; unfold Ag; omega
    · by_cases c2 : most ≤ M zs (zs.length - 1)
      · right; left; unfold Ag; omega
      · right; right; exact ⟨j, by rw [hs]; congr 1; unfold Ag; omega⟩

def metB (zs : List Int) (n least top : Int) (k : Nat) : Bool := (n == least || n == top) || (zs.take k).any fun x => n == x
theorem metB_zero (zs : List Int) (n least top : Int) : metB zs n least top 0 = (n == least || n == top) := by simp [metB]
theorem metB_succ (zs : List Int) (n least top : Int) (k : Nat) (x : Int) (hx : zs[k]? = some x) : metB zs n least top (k + 1) = (metB zs n least top k || n == x) := by
  simp [metB, List.take_add_one, hx, Bool.or_assoc]
theorem metB_all (zs : List Int) (n least top : Int) (h : n = least ∨ n = top ∨ ∃ j : Nat, zs[j]? = some n) : metB zs n least top zs.length = true := by
  rcases h with h | h | ⟨j, h⟩
  · simp [metB, h]
  · simp [metB, h]
  · simp only [metB, List.take_length, Bool.or_eq_true, List.any_eq_true]
    exact .inr ⟨n, List.mem_of_getElem? h, by simp⟩

set_option maxHeartbeats 3200000 in
theorem suit_walk (a : Option Addr) (len cap : Nat) (z : List Int) (least top : Int) (w : World) (wz : IsRow .i64 w a len cap z) (_w1 : (Lit.int .i64 least).wf = true) (_w2 : (Lit.int .i64 top).wf = true) :
    Calls Try.prog 6 #[.slice a len cap, .int .i64 least, .int .i64 top] w fun e w' => e = .returned (.bool true) ∧ Below w.heap.size w w' := by
  obtain ⟨I0, L0, hl, hm, wf0⟩ := wz.ints
  generalize z.take len = zs at *
  have HI := Lib.hid I0
  have HL := Lib.hid L0
  clear wz I0 wf0 _w1 _w2
  have hm' : (len : Int) ≤ 9223372036854775807 := by omega
  -- what Agree comes to
  obtain ⟨n, m, hn, hmm, hcase⟩ : ∃ n m, agI zs least top = n ∧ agE zs least top = m ∧ ((m ≠ 0 ∧ n = 0) ∨ (m = 0 ∧ 1 ≤ least ∧ least ≤ n ∧ n ≤ top ∧ top ≤ 1048576 ∧ (∀ (j : Nat) (x : Int), zs[j]? = some x → x ≤ top → x ≤ n) ∧ (n = least ∨ n = top ∨ ∃ j : Nat, zs[j]? = some n))) := by
    refine ⟨_, _, rfl, rfl, ?_⟩
    by_cases ha : 1 ≤ least ∧ least ≤ top ∧ top ≤ 1048576
    · by_cases hz : zs = []
      · left; rw [agE, if_pos ha, if_pos hz, agI, if_neg (fun h => h.2 hz)]; exact ⟨by decide, rfl⟩
      · right
        obtain ⟨f1, f2, f3, f4⟩ := ag_facts zs least top ha.1 ha.2.1 ha.2.2 hz
        rw [agE, if_pos ha, if_neg hz, agI, if_pos ⟨ha, hz⟩]
        exact ⟨rfl, ha.1, f1, f2, ha.2.2, f3, f4⟩
    · left; rw [agE, if_neg ha, agI, if_neg (fun h => ha h.1)]; exact ⟨by decide, rfl⟩
  have HC := Lib.hid (fun W (hW : Below w.heap.size w W) => hn ▸ hmm ▸ agree_any a len cap zs least top W ((HI.out.below hW).up hW.size) L0 hl hm)
  clear hn hmm L0
  by_cases hbig : (200 : Int) < (len : Int)
  · clear hcase
    go_enter Try.func6, Try.ntmps6
    go_wp2_with fail
    refine (alive_yes _).mono ?_
    rintro e w1 ⟨rfl, B1⟩
    go_wp2
    go_ret
    exact ⟨rfl, B1⟩
  · rcases hcase with ⟨hm0, rfl⟩ | ⟨rfl, h1, h2, h3, h4, h5, h6⟩
    · have e1 : (m == 0) = false := by simpa using hm0
      have e2 : (m != 0) = true := by simpa using hm0
      clear hm0
      go_enter Try.func6, Try.ntmps6
      go_wp2_with fail
      refine (alive_yes _).mono ?_
      rintro e w1 ⟨rfl, B1⟩
      go_wp2_with fail
      refine (HC.out _ B1).mono ?_
      rintro e w2 ⟨rfl, rfl⟩
      go_wp2
      go_ret
      exact ⟨rfl, B1⟩
    · have H5 := Lib.hid h5
      have H6 := Lib.hid h6
      have hOk : Hid (Ok (0 + n) n 0 0) := ⟨by omega, by omega, by omega, by omega, by omega, by omega, by omega, by simp; omega⟩
      clear h5 h6
      by_cases e : n = least
      · subst e
        go_enter Try.func6, Try.ntmps6
        go_wp2_with fail
        refine (alive_yes _).mono ?_
        rintro e w1 ⟨rfl, B1⟩
        go_wp2_with fail
        refine (HC.out _ B1).mono ?_
        rintro e w2 ⟨rfl, rfl⟩
        go_wp2_with fail
        go_loop [9, 40] (fun met ix => ∃ k : Nat, k ≤ len ∧ ix = .int .i64 k ∧ met = .bool (metB zs n n top k)) (fun _ ix => len - (intOf ix).toNat)
        case atStart => exact ⟨0, Nat.zero_le _, rfl, by rw [metB_zero]; simp⟩
        case round =>
          obtain ⟨k, hk, rfl, rfl⟩ := hrel
          by_cases hlt : k < len
          · obtain ⟨x, hx⟩ : ∃ x, zs[k]? = some x := ⟨_, List.getElem?_eq_getElem (by rw [HL.out]; exact hlt)⟩
            obtain ⟨b, off, rfl, hcell⟩ := (HI.out.below B1).get hx
            have hsuc := metB_succ zs n n top k x hx
            have hxn := H5.out k x hx
            clear hx
            have hxt : (x ≤ top ∧ x ≤ n) ∨ top < x := by
              by_cases hxt : x ≤ top
              · exact .inl ⟨hxt, hxn hxt⟩
              · exact .inr (by omega)
            clear hxn
            cases hmb : metB zs n n top k
            all_goals
              rw [hmb] at hsuc
              have HS := Lib.hid hsuc
              clear hsuc hmb
              rcases hxt with ⟨hxt, hxn⟩ | hxt
              all_goals
                go_wp2_with fail
                go_round
                case rel => exact ⟨k + 1, by omega, by go_num, by rw [HS.out]; rfl⟩
                case measure => simp [intOf]; omega
          · obtain rfl : k = len := by omega
            have hall : metB zs n n top k = true := by have := metB_all zs n n top (.inl rfl); rwa [HL.out] at this
            rw [hall]
            clear hall
            go_wp2_with fail
            refine (new_ok 0 n 0 _ hOk.out).mono ?_
            rintro e w3 ⟨rfl, B3⟩
            go_wp2
            go_ret
            exact ⟨by simp [h2, h3], (B1.trans (B3.mono B1.size)).alloc (Nat.le_trans B1.size B3.size) _⟩
      · have e1 : (n == least) = false := by simpa using e
        clear e
        go_enter Try.func6, Try.ntmps6
        go_wp2_with fail
        refine (alive_yes _).mono ?_
        rintro e w1 ⟨rfl, B1⟩
        go_wp2_with fail
        refine (HC.out _ B1).mono ?_
        rintro e w2 ⟨rfl, rfl⟩
        go_wp2_with fail
        go_loop [9, 40] (fun met ix => ∃ k : Nat, k ≤ len ∧ ix = .int .i64 k ∧ met = .bool (metB zs n least top k)) (fun _ ix => len - (intOf ix).toNat)
        case atStart => exact ⟨0, Nat.zero_le _, rfl, by rw [metB_zero]; simp [e1]⟩
        case round =>
          obtain ⟨k, hk, rfl, rfl⟩ := hrel
          by_cases hlt : k < len
          · obtain ⟨x, hx⟩ : ∃ x, zs[k]? = some x := ⟨_, List.getElem?_eq_getElem (by rw [HL.out]; exact hlt)⟩
            obtain ⟨b, off, rfl, hcell⟩ := (HI.out.below B1).get hx
            have hsuc := metB_succ zs n least top k x hx
            have hxn := H5.out k x hx
            clear hx
            have hxt : (x ≤ top ∧ x ≤ n) ∨ top < x := by
              by_cases hxt : x ≤ top
              · exact .inl ⟨hxt, hxn hxt⟩
              · exact .inr (by omega)
            clear hxn
            cases hmb : metB zs n least top k
            all_goals
              rw [hmb] at hsuc
              have HS := Lib.hid hsuc
              clear hsuc hmb
              rcases hxt with ⟨hxt, hxn⟩ | hxt
              all_goals
                go_wp2_with fail
                go_round
                case rel => exact ⟨k + 1, by omega, by go_num, by rw [HS.out]; rfl⟩
                case measure => simp [intOf]; omega
          · obtain rfl : k = len := by omega
            have hall : metB zs n least top k = true := by have := metB_all zs n least top H6.out; rwa [HL.out] at this
            rw [hall]
            clear hall
            go_wp2_with fail
            refine (new_ok 0 n 0 _ hOk.out).mono ?_
            rintro e w3 ⟨rfl, B3⟩
            go_wp2
            go_ret
            exact ⟨by simp [h2, h3], (B1.trans (B3.mono B1.size)).alloc (Nat.le_trans B1.size B3.size) _⟩

end Go.Proofs.Ytkknpomdleekoaa
