/-
  TallyCalls: the walk.
-/
import Derived.Test.YtaodgilfoihkfaaHears
namespace Go.Proofs.Ytaodgilfoihkfaa
open Go.RowKit
set_option linter.unusedVariables false
set_option linter.unusedSimpArgs false

attribute [local go_sem ↓] ld22 ld23 ld25 ld30 st22 st23 st25 st30

theorem hkeep {w w' : World} {g : Nat} {x : Obj} (hb : Below w.heap.size w w') (h : w.heap[g]? = some x) : w'.heap[g]? = some x := (hb.block g (lt_of_heap h)).trans h
theorem hact {w : World} {g : Nat} {a b c d : Value} (h : w.heap[g]? = some (.cells #[a, b, c, d] 27 (0, 0))) : w.cell? ⟨g, 0, none⟩ = some a ∧ w.cell? ⟨g, 1, none⟩ = some b ∧ w.cell? ⟨g, 2, none⟩ = some c ∧ w.cell? ⟨g, 3, none⟩ = some d :=
  ⟨blk_cell h 0, blk_cell h 1, blk_cell h 2, blk_cell h 3⟩
theorem box2 (w : World) (t : Ta) (cs : Array Value) : Bx ((w.alloc (.cells t.arr 25)).alloc (.cells cs 27)) w.heap.size t ∧ ((w.alloc (.cells t.arr 25)).alloc (.cells cs 27)).heap[w.heap.size + 1]? = some (.cells cs 27 (0, 0)) ∧ Below w.heap.size w ((w.alloc (.cells t.arr 25)).alloc (.cells cs 27)) := by
  refine ⟨(bx_new w t 25).alloc _, ?_, ((Below.refl _ _).alloc (by simp) _).alloc (by simp) _⟩
  have := heap_alloc_new (w.alloc (.cells t.arr 25)) (.cells cs 27)
  simpa using this
theorem calls_mk {w w' : World} {B : Nat} {t : Ta} (hl : t.Len) (b : Bx w' B t) (hB : Below w.heap.size w w') :
    (ld 25 (.pointer (some ⟨B, 0, none⟩))).run Try.prog w' = .ok (TV t) w' ∧ Bx w' B t ∧ Below w.heap.size w w' := ⟨b.load25 hl, b, hB⟩

attribute [local irreducible] ld sto Ta.arr

set_option maxRecDepth 100000 in
set_option maxHeartbeats 6400000 in
theorem calls_walk (t : Ta) (h : Bool) (who ep vote : Int) (a : Option Addr) (len cap : Nat) (zs : List Int) (w : World) (hl : t.Len) (hw1 : (Lit.int .u8 who).wf = true) (hr : IsRow .u8 w a len cap zs) :
    Calls Try.prog 3 #[TV t, .agg #[.bool h, .int .u8 who, .int .i64 ep, .int .i64 vote], .slice a len cap] w fun e w' => e = .returned (.bool true) ∧ Below w.heap.size w w' := by
  have hwb := bounds_u8 hw1
  obtain ⟨n, rfl⟩ := Int.eq_ofNat_of_zero_le hwb.1
  obtain ⟨hI, hlen, hlc, hcap, hwf⟩ := hr.ints
  generalize zs.take len = ys at *
  have HI := Lib.hid hI
  have HL := Lib.hid hlen
  have HWF := Lib.hid hwf
  have HC := Lib.hid (And.intro hlc hcap)
  obtain ⟨b0, h1, hB⟩ := box2 w t #[.bool h, .int .u8 (n : Int), .int .i64 ep, .int .i64 vote]
  clear hw1 hr hI hlen hlc hcap hwf hwb
  go_enter Try.func3, Try.ntmps3
  go_wp2_with fail
  refine (alive_yes _).mono ?_
  rintro e w1 ⟨rfl, hb⟩
  replace b0 := b0.below hb
  replace h1 := hkeep hb h1
  have BW := below_go hb hB
  clear hB hb
  by_cases h100 : (100 : Int) < (len : Int)
  · go_wp2
    go_ret
    exact ⟨rfl, BW⟩
  have l0 := b0.load25 hl
  obtain ⟨k0, k1, k2, k3⟩ := hact h1
  go_wp2_with fail
  refine (put_is t hl n ep vote _).mono ?_
  rintro e w2 ⟨rfl, hb⟩
  clear l0 k0 k1 k2 k3
  replace b0 := b0.below hb
  replace h1 := hkeep hb h1
  replace BW := below_go hb BW
  clear hb
  have hlp := hl.put n ep vote
  obtain ⟨s0, cp, d⟩ := nv w2 hlp
  replace b0 := b0.below d
  replace h1 := hkeep d h1
  replace BW := below_go d BW
  clear d
  have l0 := b0.load25 hl
  obtain ⟨k0, k1, k2, k3⟩ := hact h1
  go_wp2_with fail
  refine (rput_is t hl n ep vote _).mono ?_
  rintro e w3 ⟨rfl, hb⟩
  clear l0 k0 k1 k2 k3
  clear s0
  replace b0 := b0.below hb
  replace cp := cp.below hb
  replace h1 := hkeep hb h1
  replace BW := below_go hb BW
  clear hb
  have hlq := hl.put n ep vote
  obtain ⟨s1, cq, d⟩ := nv25 w3 hlq
  replace b0 := b0.below d
  replace cp := cp.below d
  replace h1 := hkeep d h1
  replace BW := below_go d BW
  clear d
  have l0 := b0.load25 hl
  obtain ⟨k0, k1, k2, k3⟩ := hact h1
  go_wp2_with fail
  refine (hear_is t hl n ep _).mono ?_
  rintro e w4 ⟨rfl, hb⟩
  clear l0 k0 k1 k2 k3
  clear s1
  replace b0 := b0.below hb
  replace cp := cp.below hb
  replace cq := cq.below hb
  replace h1 := hkeep hb h1
  replace BW := below_go hb BW
  clear hb
  have hlr := hl.hear n ep
  obtain ⟨s2, cr, d⟩ := nv w4 hlr
  replace b0 := b0.below d
  replace cp := cp.below d
  replace cq := cq.below d
  replace h1 := hkeep d h1
  replace BW := below_go d BW
  clear d
  have l0 := b0.load25 hl
  obtain ⟨k0, k1, k2, k3⟩ := hact h1
  go_wp2_with fail
  refine (rhear_is t hl n ep _).mono ?_
  rintro e w5 ⟨rfl, hb⟩
  clear l0 k0 k1 k2 k3
  clear s2
  replace b0 := b0.below hb
  replace cp := cp.below hb
  replace cq := cq.below hb
  replace cr := cr.below hb
  replace h1 := hkeep hb h1
  replace BW := below_go hb BW
  clear hb
  have hls := hl.hear n ep
  obtain ⟨s3, cs, d⟩ := nv25 w5 hls
  replace b0 := b0.below d
  replace cp := cp.below d
  replace cq := cq.below d
  replace cr := cr.below d
  replace h1 := hkeep d h1
  replace BW := below_go d BW
  clear d
  have l0 := b0.load25 hl
  obtain ⟨k0, k1, k2, k3⟩ := hact h1
  go_wp2_with fail
  refine (new_is a len cap ys w.heap.size _ (HI.out.below BW) BW.size HL.out HC.out.1 HC.out.2 HWF.out).mono ?_
  rintro e w6 ⟨rfl, hb⟩
  clear l0 k0 k1 k2 k3
  clear s3
  replace b0 := b0.below hb
  replace cp := cp.below hb
  replace cq := cq.below hb
  replace cr := cr.below hb
  replace cs := cs.below hb
  replace h1 := hkeep hb h1
  replace BW := below_go hb BW
  clear hb
  have hlx := Ta.Len.new ys
  obtain ⟨s4, cx, d⟩ := nv w6 hlx
  replace b0 := b0.below d
  replace cp := cp.below d
  replace cq := cq.below d
  replace cr := cr.below d
  replace cs := cs.below d
  replace h1 := hkeep d h1
  replace BW := below_go d BW
  clear d
  have l0 := b0.load25 hl
  obtain ⟨k0, k1, k2, k3⟩ := hact h1
  go_wp2_with fail
  refine (rnew_is a len cap ys w.heap.size _ (HI.out.below BW) BW.size HL.out HC.out.1 HC.out.2 HWF.out).mono ?_
  rintro e w7 ⟨rfl, hb⟩
  clear l0 k0 k1 k2 k3
  clear s4
  replace b0 := b0.below hb
  replace cp := cp.below hb
  replace cq := cq.below hb
  replace cr := cr.below hb
  replace cs := cs.below hb
  replace cx := cx.below hb
  replace h1 := hkeep hb h1
  replace BW := below_go hb BW
  clear hb
  have hly := Ta.Len.new ys
  obtain ⟨s5, cy, d⟩ := nv25 w7 hly
  replace b0 := b0.below d
  replace cp := cp.below d
  replace cq := cq.below d
  replace cr := cr.below d
  replace cs := cs.below d
  replace cx := cx.below d
  replace h1 := hkeep d h1
  replace BW := below_go d BW
  clear d
  have l0 := b0.load25 hl
  obtain ⟨k0, k1, k2, k3⟩ := hact h1
  have mp := cp.load30 hlp
  have mq := cq.load25 hlq
  have mr := cr.load30 hlr
  have ms := cs.load25 hls
  have mx := cx.load30 hlx
  have my := cy.load25 hly
  have qp := fun w => eq25 w 9997 hlp hlp
  have qr := fun w => eq25 w 9997 hlr hlr
  have qx := fun w => eq25 w 9997 hlx hlx
  simp only [decide_true] at qp qr qx
  have START := calls_mk (w := w) hl b0 BW
  have MK := Lib.hid (fun (w' : World) => calls_mk (w := w) (w' := w') (B := w.heap.size) hl)
  clear b0 cp cq cr cs cx cy BW l0 k0 k1 k2 k3 h1
  go_wp2_with fail
  go_region_held3 (fun w' => (ld 25 (.pointer (some ⟨w.heap.size, 0, none⟩))).run Try.prog w' = .ok (TV t) w' ∧ Bx w' w.heap.size t ∧ Below w.heap.size w w')
    ((go_split_ands; first | with_reducible exact START | exact MK.out _ (Bx.keep (by assumption) (by assumption)) (below_go (by assumption) (by assumption)) | exact MK.out _ (Bx.drew (by assumption)) (Below.drew (by assumption))))
    (first
      | (go_at_call 17; refine (right_is _ hl _).mono ?_; rintro e w' ⟨rfl, hb⟩)
      | (go_at_call 18; refine (rright_is _ hl _).mono ?_; rintro e w' ⟨rfl, hb⟩)
      | (go_at_call 19; refine (outcome_is _ hl _).mono ?_; rintro e w' ⟨rfl, hb⟩)
      | (go_at_call 20; refine (routcome_is _ hl _).mono ?_; rintro e w' ⟨rfl, hb⟩))
  go_wp2
  go_ret
  go_split_ands
  exact ⟨rfl, by assumption⟩

end Go.Proofs.Ytaodgilfoihkfaa
