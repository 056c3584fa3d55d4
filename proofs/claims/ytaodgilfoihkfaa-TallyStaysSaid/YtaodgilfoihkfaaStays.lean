/-
  TallyStays: the pure law, and the walk.
-/
import Derived.Test.YtaodgilfoihkfaaOne
namespace Go.Proofs.Ytaodgilfoihkfaa
open Go.RowKit
set_option linter.unusedVariables false
set_option linter.unusedSimpArgs false

attribute [local go_sem ↓] ld22 ld23 ld25 ld30 st22 st23 st25 st30

theorem hkeep2 {w w' : World} {g : Nat} {x : Obj} (hb : Below w.heap.size w w') (h : w.heap[g]? = some x) : w'.heap[g]? = some x := (hb.block g (lt_of_heap h)).trans h

theorem does_cases (t : Ta) (b : Bool) (n : Nat) (ep vote : Int) : (∃ e, e ≠ 0 ∧ (Ac.mk b n ep vote).does t = (t, e)) ∨
    (t.right = true ∧ n < 8 ∧ t.w n = true ∧ 1 ≤ ep ∧ ep ≤ 1048576 ∧ t.e n ≤ ep ∧ ((Ac.mk b n ep vote).does t = (t.setE n ep, 0) ∨ ∃ v, (v = 1 ∨ v = 2) ∧ t.v n = 0 ∧ (Ac.mk b n ep vote).does t = ((t.setE n ep).setV n v, 0))) := by
  rcases hear_cases t n ep with ⟨e, he, hh⟩ | ⟨hh, h1, h2, h3, h4, h5, h6⟩
  · left
    cases b
    · unfold Ac.does Ta.put
      simp only [hh]
      split
      · rename_i hq; cases hq
      · split
        · exact ⟨2, by decide, rfl⟩
        · exact ⟨e, he, rfl⟩
    · exact ⟨e, he, by unfold Ac.does; exact hh⟩
  · cases b
    · unfold Ac.does Ta.put
      simp only [hh]
      have e1 : (t.setE n ep).v n = t.v n := rfl
      by_cases hv : vote ≠ 1 ∧ vote ≠ 2
      · left
        exact ⟨2, by decide, by simp [hv]⟩
      · by_cases h0 : t.v n = 0
        · right
          refine ⟨h1, h2, h3, h4, h5, h6, .inr ⟨vote, by omega, h0, ?_⟩⟩
          rw [if_neg (by simp), if_neg hv, if_neg (by simp), if_pos (e1.trans h0)]
        · by_cases hvv : t.v n = vote
          · right
            refine ⟨h1, h2, h3, h4, h5, h6, .inl ?_⟩
            rw [if_neg (by simp), if_neg hv, if_neg (by simp), e1, if_neg h0, if_neg (by simpa using hvv)]
          · left
            refine ⟨8, by decide, ?_⟩
            rw [if_neg (by simp), if_neg hv, if_neg (by simp), e1, if_neg h0, if_pos (by simpa using hvv)]
    · right
      refine ⟨h1, h2, h3, h4, h5, h6, .inl ?_⟩
      unfold Ac.does
      simp only [hh, if_true]

/-- What a call leaves acs it was. -/
structure Stay (t y : Ta) (e : Int) : Prop where
  same : e ≠ 0 → y = t
  len : y.Len
  right : y.right = true
  w : y.W = t.W
  out : t.outcome ≠ 0 → y.outcome = t.outcome
  e : ∀ i, i < 8 → t.e i ≤ y.e i
  v : ∀ i, i < 8 → t.v i ≠ 0 → y.v i = t.v i

theorem stays {t : Ta} (hl : t.Len) (hr : t.right = true) (b : Bool) (n : Nat) (ep vote : Int) : Stay t ((Ac.mk b n ep vote).does t).1 ((Ac.mk b n ep vote).does t).2 := by
  rcases does_cases t b n ep vote with ⟨e, he, hD⟩ | ⟨_, h2, h3, h4, h5, h6, hD | ⟨v, hv, h0, hD⟩⟩
  · rw [hD]
    exact ⟨fun _ => rfl, hl, hr, rfl, fun _ => rfl, fun _ _ => Int.le_refl _, fun _ _ _ => rfl⟩
  · rw [hD]
    have r1 := setE_right hl hr h2 h3 h4 h5
    refine ⟨fun h => absurd rfl h, hl.setE _ _, r1, rfl, fun _ => outcome_setE hr r1, fun i hi => ?_, fun i hi _ => rfl⟩
    simp only [Ta.e_setE hl h2]
    split
    · rename_i h; subst h; exact h6
    · exact Int.le_refl _
  · rw [hD]
    have hl1 := hl.setE n ep
    have r1 := setE_right hl hr h2 h3 h4 h5
    have ee : (t.setE n ep).e n = ep := by rw [Ta.e_setE hl h2, if_pos rfl]
    have r2 := setV_right hl1 r1 h2 (show (t.setE n ep).w n = true from h3) (by rw [ee]; omega) (x := v) (by omega) (by omega)
    have vv : ∀ q, ((t.setE n ep).setV n v).v q = if q = n then v else t.v q := fun q => by
      rw [Ta.v_setV hl1 h2]
      rfl
    refine ⟨fun h => absurd rfl h, hl1.setV _ _, r2, rfl, fun ho => ?_, fun i hi => ?_, fun i hi hne => ?_⟩
    · by_cases hx : ∃ q, q < 8 ∧ t.v q = 2
      · obtain ⟨q, hq, h22⟩ := hx
        rw [outcome_two hr hq h22]
        refine outcome_two r2 hq ?_
        rw [vv, if_neg (fun h => by rw [h, h0] at h22; cases h22)]
        exact h22
      · refine absurd ?_ ho
        rw [outcome_else hr (fun j hj h => hx ⟨j, hj, h⟩), if_pos]
        rw [Ta.openB, List.any_eq_true]
        exact ⟨n, by simpa using h2, by simp [h3, h0]⟩
    · show t.e i ≤ (t.setE n ep).e i
      rw [Ta.e_setE hl h2]
      split
      · rename_i h; subst h; exact h6
      · exact Int.le_refl _
    · rw [vv, if_neg (fun h => by subst h; exact hne h0)]

/-- A slice of calls that came in. -/
def Acts (B : Nat) (w : World) (a : Option Addr) (acs : List Ac) : Prop :=
  acs = [] ∨ ∃ b off, a = some ⟨b, off, none⟩ ∧ b < B ∧ ∀ (j : Nat) (x : Ac), acs[j]? = some x → w.cell? ⟨b, off + j * 4, none⟩ = some (.bool x.h) ∧ w.cell? ⟨b, off + j * 4 + 1, none⟩ = some (.int .u8 (x.who : Int)) ∧ w.cell? ⟨b, off + j * 4 + 2, none⟩ = some (.int .i64 x.ep) ∧ w.cell? ⟨b, off + j * 4 + 3, none⟩ = some (.int .i64 x.vote)
theorem Acts.below {B : Nat} {w w' : World} {a : Option Addr} {acs : List Ac} (h : Acts B w a acs) (hb : Below B w w') : Acts B w' a acs := by
  rcases h with h | ⟨b, off, rfl, hlt, hc⟩
  · exact .inl h
  · refine .inr ⟨b, off, rfl, hlt, fun j x hx => ?_⟩
    obtain ⟨h0, h1, h2, h3⟩ := hc j x hx
    exact ⟨(hb.cell (p := ⟨b, _, none⟩) hlt).trans h0, (hb.cell (p := ⟨b, _, none⟩) hlt).trans h1, (hb.cell (p := ⟨b, _, none⟩) hlt).trans h2, (hb.cell (p := ⟨b, _, none⟩) hlt).trans h3⟩
theorem Acts.get {B : Nat} {w : World} {a : Option Addr} {acs : List Ac} (h : Acts B w a acs) {j : Nat} {x : Ac} (hx : acs[j]? = some x) : ∃ b off, a = some ⟨b, off, none⟩ ∧ w.cell? ⟨b, off + j * 4, none⟩ = some (.bool x.h) ∧ w.cell? ⟨b, off + j * 4 + 1, none⟩ = some (.int .u8 (x.who : Int)) ∧ w.cell? ⟨b, off + j * 4 + 2, none⟩ = some (.int .i64 x.ep) ∧ w.cell? ⟨b, off + j * 4 + 3, none⟩ = some (.int .i64 x.vote) := by
  rcases h with rfl | ⟨b, off, rfl, _, hc⟩
  · simp at hx
  · obtain ⟨h0, h1, h2, h3⟩ := hc j x hx
    exact ⟨b, off, rfl, h0, h1, h2, h3⟩

attribute [local irreducible] ld sto Ta.arr

set_option maxRecDepth 100000 in
set_option maxHeartbeats 6400000 in
theorem stays_walk (t : Ta) (a : Option Addr) (len cap : Nat) (acs : List Ac) (w : World) (hl : t.Len) (hA : Acts w.heap.size w a acs) (hlen : acs.length = len) (hlc : (len : Int) ≤ 9223372036854775807) :
    Calls Try.prog 4 #[TV t, .slice a len cap] w fun e w' => e = .returned (.bool true) ∧ Below w.heap.size w w' := by
  have HA := Lib.hid hA
  have HLN := Lib.hid hlen
  have b0 := bx_new w t 25
  have hB : Below w.heap.size w (w.alloc (.cells t.arr 25)) := (Below.refl _ _).alloc (by simp) _
  clear hA hlen
  go_enter Try.func4, Try.ntmps4
  go_wp2_with fail
  refine (alive_yes _).mono ?_
  rintro e w1 ⟨rfl, hb⟩
  replace b0 := b0.below hb
  have BW := below_go hb hB
  clear hB hb
  have l0 := b0.load25 hl
  go_wp2_with fail
  refine (rright_is t hl _).mono ?_
  rintro e w2 ⟨rfl, hb⟩
  replace b0 := b0.below hb
  replace BW := below_go hb BW
  clear hb l0
  obtain ⟨r, hr⟩ : ∃ r, t.right = r := ⟨_, rfl⟩
  rw [hr]
  cases r
  · clear hr
    go_wp2
    go_ret
    exact ⟨rfl, BW⟩
  by_cases h100 : (100 : Int) < (len : Int)
  · clear hr
    go_wp2
    go_ret
    exact ⟨rfl, BW⟩
  have HR := Lib.hid hr
  clear hr
  have l0 := b0.load25 hl
  obtain ⟨s5, c5, d⟩ := nv w2 hl
  have hg : w.heap.size ≤ w2.heap.size := BW.size
  replace BW := below_go d BW
  clear d
  go_wp2_with fail
  clear s5 l0 b0
  generalize (w2.alloc (.cells zlit 30)).setRow w2.heap.size t.arr = W at *
  generalize w2.heap.size = g at *
  go_loopw [25] (fun ix wr => ∃ k : Nat, k ≤ len ∧ ix = .int .i64 k ∧ (∃ x : Ta, x.Len ∧ Hid (x.right = true) ∧ Bx wr g x) ∧ Below w.heap.size w wr) (fun ix _ => len - (intOf ix).toNat)
  case atStart => exact ⟨0, by omega, rfl, ⟨t, hl, HR, c5⟩, BW⟩
  case round =>
    clear c5 BW HR hl
    obtain ⟨k, hk, rfl, ⟨x, hlx, hrx, c5⟩, BW⟩ := hrel
    by_cases hlt : k < len
    · obtain ⟨ac, hac⟩ : ∃ ac, acs[k]? = some ac := ⟨_, List.getElem?_eq_getElem (by rw [HLN.out]; exact hlt)⟩
      obtain ⟨bb, off, rfl, m0, m1, m2, m3⟩ := (HA.out.below BW).get hac
      obtain ⟨h, n, ep, vote⟩ := ac
      simp only at m0 m1 m2 m3
      have hk2 : (k : Int) < (len : Int) := by omega
      have hk100 : k ≤ 100 := by omega
      clear hac
      have lx := (c5.alloc (.cells #[.bool h, .int .u8 (n : Int), .int .i64 ep, .int .i64 vote] 27)).load30 hlx
      have BA := BW.alloc BW.size (.cells #[.bool h, .int .u8 (n : Int), .int .i64 ep, .int .i64 vote] 27)
      go_wp2_with fail
      refine (does_is x hlx h n ep vote _).mono ?_
      rintro e w3 ⟨rfl, hb⟩
      replace c5 := (c5.alloc (.cells #[.bool h, .int .u8 (n : Int), .int .i64 ep, .int .i64 vote] 27)).below hb
      replace BW := below_go hb BA
      have ST := Lib.hid (stays hlx hrx.out h n ep vote)
      clear hb lx BA m0 m1 m2 m3
      generalize (Ac.mk h n ep vote).does x = D at *
      obtain ⟨y, e⟩ := D
      simp only at ST ⊢
      have hly := ST.out.len
      obtain ⟨s8, c8, d⟩ := nv w3 hly
      replace c5 := c5.below d
      replace BW := below_go d BW
      clear d
      have lx := c5.load30 hlx
      have ly := c8.load30 hly
      have q22 := fun w => eq22 w 9998 y.W x.W hly.w hlx.w
      simp only [show decide (y.W = x.W) = true from decide_eq_true ST.out.w] at q22
      have q30 : (e != 0) = false ∨ ((e != 0) = true ∧ ∀ w, (Op.equalIn 10000 30 (TV y) (TV x)).run Try.prog w = .ok true w) := by
        by_cases he : e = 0
        · left; simpa using he
        · right
          refine ⟨by simpa using he, fun w => ?_⟩
          have h := eq30 w 9997 hly hlx
          rw [decide_eq_true (ST.out.same he)] at h
          exact h
      rcases q30 with he | ⟨he, q30⟩
      all_goals
        go_wp2_with fail
        refine (right_at hly ST.out.right _).mono ?_
        rintro e' w4 ⟨rfl, hb⟩
        replace c5 := c5.below hb
        replace c8 := c8.below hb
        replace BW := below_go hb BW
        clear hb lx ly s8
        have lx := c5.load30 hlx
        have lx2 := c5.load22 hlx
        have ly2 := c8.load22 hly
        go_wp2_with fail
        refine (outcome_is x hlx _).mono ?_
        rintro e' w5 ⟨rfl, hb⟩
        replace c5 := c5.below hb
        replace c8 := c8.below hb
        replace BW := below_go hb BW
        clear hb lx lx2 ly2
        have hout := ST.out.out
        obtain ⟨o, ho⟩ : ∃ o, x.outcome = o := ⟨_, rfl⟩
        rw [ho] at hout ⊢
        clear ho
        have ly := c8.load30 hly
        by_cases ho : o = 0
        · have hob : (o != 0) = false := by simpa using ho
          clear ho hout
          go_wp2_with fail
          generalize w3.heap.size = g8 at *
          clear ly q22
          go_loopw [64] (fun jx wr => ∃ i : Nat, i ≤ 8 ∧ jx = .int .i64 i ∧ Bx wr g x ∧ Bx wr g8 y ∧ Below w.heap.size w wr) (fun jx _ => 8 - (intOf jx).toNat)
          case atStart => exact ⟨0, by omega, rfl, c5, c8, BW⟩
          case round =>
            clear c5 c8 BW
            obtain ⟨i, hi, rfl, c5, c8, BW⟩ := hrel
            by_cases hi8 : i < 8
            · have hi2 : (i : Int) < 8 := by omega
              have cxv := c5.cv hlx hi8
              have cxe := c5.ce hlx hi8
              have cyv := c8.cv hly hi8
              have cye := c8.ce hly hi8
              have d1 : decide (y.e i < x.e i) = false := by have := ST.out.e i hi8; simp; omega
              have C5 := Lib.hid c5
              have C8 := Lib.hid c8
              have BX := Lib.hid BW
              clear c5 c8 BW
              by_cases hv : x.v i = 0
              · have hv1 : (x.v i != 0) = false := by simpa using hv
                clear hv
                go_wp2_with fail
                go_quiet (fail)
                go_wp2_with fail
                go_roundw
                case rel => exact ⟨i + 1, by omega, by go_num, C5.out.drewN _, C8.out.drewN _, bdrewN BX.out _⟩
                case measure => simp [intOf]; omega
              · rw [ST.out.v i hi8 hv] at cyv
                have hv1 : (x.v i != 0) = true := by simpa using hv
                have hv2 : (x.v i != x.v i) = false := by simp
                clear hv
                go_wp2_with fail
                go_quiet (fail)
                go_wp2_with fail
                go_roundw
                case rel => exact ⟨i + 1, by omega, by go_num, C5.out.drewN _, C8.out.drewN _, bdrewN BX.out _⟩
                case measure => simp [intOf]; omega
            · obtain rfl : i = 8 := by omega
              have ly := c8.load30 hly
              have s5 := c5.sto30 hlx hly
              have C5 := Lib.hid (c5.row y)
              have BX := Lib.hid (brow BW hg y.arr)
              clear c5 c8 BW
              go_wp2_with fail
              go_roundw
              case rel => exact ⟨k + 1, by omega, by go_num, ⟨y, hly, Lib.hid ST.out.right, C5.out⟩, BX.out⟩
              case measure => simp [intOf]; omega
        · have hob : (o != 0) = true := by simpa using ho
          have hoo : (o != o) = false := by simp
          replace hout := hout ho
          clear ho
          go_wp2_with fail
          refine (outcome_at hly hout _).mono ?_
          rintro e' w6 ⟨rfl, hb⟩
          replace c5 := c5.below hb
          replace c8 := c8.below hb
          replace BW := below_go hb BW
          clear hb hout
          go_wp2_with fail
          generalize w3.heap.size = g8 at *
          clear ly q22
          go_loopw [64] (fun jx wr => ∃ i : Nat, i ≤ 8 ∧ jx = .int .i64 i ∧ Bx wr g x ∧ Bx wr g8 y ∧ Below w.heap.size w wr) (fun jx _ => 8 - (intOf jx).toNat)
          case atStart => exact ⟨0, by omega, rfl, c5, c8, BW⟩
          case round =>
            clear c5 c8 BW
            obtain ⟨i, hi, rfl, c5, c8, BW⟩ := hrel
            by_cases hi8 : i < 8
            · have hi2 : (i : Int) < 8 := by omega
              have cxv := c5.cv hlx hi8
              have cxe := c5.ce hlx hi8
              have cyv := c8.cv hly hi8
              have cye := c8.ce hly hi8
              have d1 : decide (y.e i < x.e i) = false := by have := ST.out.e i hi8; simp; omega
              have C5 := Lib.hid c5
              have C8 := Lib.hid c8
              have BX := Lib.hid BW
              clear c5 c8 BW
              by_cases hv : x.v i = 0
              · have hv1 : (x.v i != 0) = false := by simpa using hv
                clear hv
                go_wp2_with fail
                go_quiet (fail)
                go_wp2_with fail
                go_roundw
                case rel => exact ⟨i + 1, by omega, by go_num, C5.out.drewN _, C8.out.drewN _, bdrewN BX.out _⟩
                case measure => simp [intOf]; omega
              · rw [ST.out.v i hi8 hv] at cyv
                have hv1 : (x.v i != 0) = true := by simpa using hv
                have hv2 : (x.v i != x.v i) = false := by simp
                clear hv
                go_wp2_with fail
                go_quiet (fail)
                go_wp2_with fail
                go_roundw
                case rel => exact ⟨i + 1, by omega, by go_num, C5.out.drewN _, C8.out.drewN _, bdrewN BX.out _⟩
                case measure => simp [intOf]; omega
            · obtain rfl : i = 8 := by omega
              have ly := c8.load30 hly
              have s5 := c5.sto30 hlx hly
              have C5 := Lib.hid (c5.row y)
              have BX := Lib.hid (brow BW hg y.arr)
              clear c5 c8 BW
              go_wp2_with fail
              go_roundw
              case rel => exact ⟨k + 1, by omega, by go_num, ⟨y, hly, Lib.hid ST.out.right, C5.out⟩, BX.out⟩
              case measure => simp [intOf]; omega
    · obtain rfl : k = len := by omega
      go_wp2
      go_ret
      exact ⟨rfl, BW⟩

end Go.Proofs.Ytaodgilfoihkfaa
