/-
  WholeTalk's hear.
-/
import Derived.Test.YtehgbpepaakanaaDoorTi
namespace Go.Proofs.YtehgbpepaakanaaDoor
open Go.RowKit
set_option linter.unusedVariables false
set_option linter.unusedSimpArgs false
set_option maxRecDepth 20000

attribute [local go_sem] Oper.semAt_some

theorem Tryd.infoStr : (Tryd.prog.info? 9).map (fun i => (i.zero, i.size, i.bytes)) = some (some (.string ⟨#[]⟩), 1, 16) := by kernel_rfl
def encS (s : ByteArray) : List Value := [.string s]
theorem encS_len (s : ByteArray) : (encS s).length = 1 := rfl
/-- A slice of texts that owns its row. -/
def SS (w : World) (v : Value) (ss : List ByteArray) : Prop := w.ownsRow 0 9 1 v ss.length (cellsOf encS ss)
theorem SS.slice {w : World} {v : Value} {ss : List ByteArray} (h : SS w v ss) : ∃ a d, v = .slice a ss.length d := by
  rcases h.2 with ⟨rfl, h0⟩ | ⟨g, cap, cur, rfl, _⟩
  · exact ⟨none, 0, by rw [h0]⟩
  · exact ⟨_, _, rfl⟩
theorem SS.upd {w w' : World} {v : Value} {ss : List ByteArray} (h : SS w v ss) {S : Nat → Prop} (hu : Upd S w w') (hn : ∀ k, v.ownBlock = some k → ¬ S k) : SS w' v ss := ownsRow_upd h hu hn
theorem SS.lt {w : World} {v : Value} {ss : List ByteArray} (h : SS w v ss) : ∀ k, v.ownBlock = some k → k < w.heap.size := fun k hk => (World.ownsRow.lt h k hk).2
/-- The box of a slice of texts. -/
def TB (w : World) (B : Nat) (v : Value) : Prop := w.heap[B]? = some (.cells #[v] 45 (0, 0))
theorem TB.cell {w : World} {B : Nat} {v : Value} (h : TB w B v) : w.cell? ⟨B, 0, none⟩ = some v ∧ w.frozen? ⟨B, 0, none⟩ = false := by
  have := blk_cell h 0; exact ⟨by simpa using this, blk_frozen h 0⟩
theorem TB.set0 {w : World} {B : Nat} {v : Value} (h : TB w B v) (u : Value) : TB (w.setCell ⟨B, 0, none⟩ u) B u := by simpa [TB] using blk_set h 0 u
/-- The box of a letter. -/
def LB (w : World) (B : Nat) (f t : Int) (v : Value) : Prop := w.heap[B]? = some (.cells #[.int .u8 f, .int .u8 t, v] 37 (0, 0))
theorem LB.cells {w : World} {B : Nat} {f t : Int} {v : Value} (h : LB w B f t v) : w.cell? ⟨B, 0, none⟩ = some (.int .u8 f) ∧ w.cell? ⟨B, 1, none⟩ = some (.int .u8 t) ∧ w.cell? ⟨B, 2, none⟩ = some v := by
  have h0 := blk_cell h 0
  have h1 := blk_cell h 1
  have h2 := blk_cell h 2
  simp at h0 h1 h2
  exact ⟨h0, h1, h2⟩

set_option maxHeartbeats 2000000 in
theorem hear14 (BI BT : Nat) (f t h q : Int) (a : Option Addr) (m d : Nat) (s : ByteArray) (tv : Value) (told : List ByteArray) (w : World) (hR : BR w a m d (q :: strB s)) (hI : IB w BI h) (hT : TB w BT tv) (hS : SS w tv told)
    (h0 : 0 ≤ h) (h1 : h < 1048576) (q0 : 0 ≤ q) (q1 : q < 256) (hs : s.size ≤ 500) (hl : told.length ≤ 1000) :
    Calls Tryd.prog 14 #[.agg #[.int .u8 f, .int .u8 t, .slice a m d], .pointer (some ⟨BI, 0, none⟩), .pointer (some ⟨BT, 0, none⟩)] w fun e w' => e = .returned (.tuple #[]) ∧
      ∃ h' tv' told', ((q = h ∧ h' = h + 1 ∧ told' = told ++ [s]) ∨ (q ≠ h ∧ h' = h ∧ told' = told)) ∧ IB w' BI h' ∧ TB w' BT tv' ∧ SS w' tv' told' ∧ (∀ k, tv'.ownBlock = some k → tv.ownBlock = some k ∨ w.heap.size ≤ k) ∧ Upd (fun k => k = BI ∨ k = BT ∨ tv.ownBlock = some k) w w' := by
  obtain ⟨i0, hi0, hz0, hz1, hz2⟩ := info_parts Tryd.infoStr
  have hml := hR.len
  rw [List.length_cons, strB_len] at hml
  subst hml
  rcases hR with ⟨h, _⟩ | ⟨b, off, rfl, hlb, hlen, hmd, hdm, hc⟩
  · omega
  obtain ⟨w2, hw2⟩ : ∃ w2, w.alloc (.cells #[.int .u8 f, .int .u8 t, .slice (some ⟨b, off, none⟩) (s.size + 1) d] 37) = w2 := ⟨_, rfl⟩
  have hB2 : Below w.heap.size w w2 := by rw [← hw2]; exact (Below.refl _ w).alloc (Nat.le_refl _) _
  have hb2 : LB w2 w.heap.size f t (.slice (some ⟨b, off, none⟩) (s.size + 1) d) := by rw [← hw2]; exact heap_alloc_new w _
  have hI2 : IB w2 BI h := (hB2.block _ (lt_of_heap hI)).trans hI
  have hT2 : TB w2 BT tv := (hB2.block _ (lt_of_heap hT)).trans hT
  have hS2 : SS w2 tv told := hS.upd (Upd.of_below hB2 (fun _ => False)) (fun _ _ h => h)
  have hc2 : ∀ j x, (q :: strB s)[j]? = some x → w2.cell? ⟨b, off + j, none⟩ = some (.int .u8 x) := fun j x hx => (hB2.cell (p := ⟨b, off + j, none⟩) hlb).trans (hc j x hx)
  have c0 : w2.cell? ⟨b, off, none⟩ = some (.int .u8 q) := hc2 0 q rfl
  obtain ⟨oA, hA, hoA⟩ : ∃ oA : Nat, (if d = 1 then some (⟨b, off, none⟩ : Addr) else some ⟨b, off + 1, none⟩) = some ⟨b, oA, none⟩ ∧ (s.size = 0 ∨ oA = off + 1) := by
    by_cases hd : d = 1
    · exact ⟨off, by simp [hd], .inl (by omega)⟩
    · exact ⟨off + 1, by simp [hd], .inr rfl⟩
  have hlw2 : b < w2.heap.size := Nat.lt_of_lt_of_le hlb hB2.size
  have hBR : BR w2 (some ⟨b, oA, none⟩) s.size (d - 1) (strB s) := .inr ⟨b, oA, rfl, hlw2, strB_len s, by omega, by omega, fun j x hx => by
    have hj : j < s.size := by have := (List.getElem?_eq_some_iff.1 hx).1; rwa [strB_len] at this
    rcases hoA with h | rfl
    · omega
    · have := hc2 (j + 1) x (by simpa using hx)
      rw [Nat.add_assoc, Nat.add_comm 1 j]; exact this⟩
  have hstr : ∀ W, Upd (fun _ => False) w2 W → (convert 28 9 (.slice (some ⟨b, oA, none⟩) s.size (d - 1))).run Tryd.prog W = .ok (.string s) W := fun W hu => by
    have := (hBR.below (hu.below (Nat.le_refl _) (fun _ _ h => h))).str
    rwa [strOfNums_strB] at this
  have hs1 := hstr w2.drew ((Upd.refl _ _).drew)
  have hs2 := hstr (w2.alloc (.cells #[.int .i64 0] 50)).drew (((Upd.refl _ _).alloc _).drew)
  obtain ⟨h', s', c, hcase, hC⟩ := hear15' h q s h0 h1 q0 (by omega) hs
  have hwq : IntKind.i64.wrap q = q := by rw [IntKind.wrap_i64]; omega
  have hC' : ∀ W, Upd (fun _ => False) w2 W → Calls Tryd.prog 15 #[.agg #[.int .i64 h], .agg #[.int .i64 q, .string s]] W fun e w3 => e = .returned (.tuple #[.agg #[.int .i64 h'], .string s', .int .i64 c]) ∧
      w3.cell? ⟨w.heap.size, 2, none⟩ = some (.slice (some ⟨b, off, none⟩) (s.size + 1) d) ∧ w3.cell? ⟨b, off, none⟩ = some (.int .u8 q) ∧ w3.cell? ⟨BI, 0, none⟩ = some (.int .i64 h) ∧ Below w2.heap.size w2 w3 ∧ Below W.heap.size W w3 := fun W hu => by
    refine (hC W).mono ?_
    rintro e w3 ⟨rfl, hB⟩
    have hB' : Below w2.heap.size w2 w3 := (hu.below (Nat.le_refl _) (fun _ _ h => h)).trans (hB.mono hu.size)
    exact ⟨rfl, (hB'.cell (p := ⟨w.heap.size, 2, none⟩) (lt_of_heap hb2)).trans hb2.cells.2.2, (hB'.cell (p := ⟨b, off, none⟩) hlw2).trans c0, (hB'.cell (p := ⟨BI, 0, none⟩) (lt_of_heap hI2)).trans hI2.cells.1, hB', hB⟩
  have hd1 : (1 : Int) ≤ (s.size : Int) + 1 := by omega
  have hd2 : (s.size : Int) + 1 ≤ (d : Int) := by omega
  have hlI := lt_of_heap hI2
  have hl2 := lt_of_heap hb2
  obtain ⟨x0, x1, x2⟩ := hb2.cells
  obtain ⟨y0, y1⟩ := hI2.cells
  have hne0 : (s.size : Int) + 1 ≠ 0 := by omega
  have H2 := Lib.hid hb2
  have HI := Lib.hid hI2
  have HT := Lib.hid hT2
  have HS := Lib.hid hS2
  have n1 : ¬ w.heap.size = w2.heap.size := by omega
  have n2 : ¬ b = w2.heap.size := by omega
  have n3 : ¬ BI = w2.heap.size := by omega
  have n4 : ¬ w2.heap.size = w.heap.size := by omega
  have n5 : ¬ w2.heap.size = b := by omega
  have n6 : ¬ w2.heap.size = BI := by omega
  have HSTR := Lib.hid hstr
  have HW2 := Lib.hid hw2
  have HC := Lib.hid hC'
  have HCase := Lib.hid hcase
  have HU2 := Lib.hid hB2
  clear hc hc2 hBR hstr hC hC' hcase hb2 hI2 hT2 hS2 hw2 hI hT hS hB2 hoA
  go_enter Tryd.func14, Tryd.ntmps14
  go_upto_region 2 with fail
  rw [HW2.out]
  go_cut [4, 5, 6] from 11 to 34 (fun p4 v5 v6 wx => ∃ B4, p4 = .pointer (some ⟨B4, 0, none⟩) ∧ v5 = .string s' ∧ v6 = .int .i64 c ∧ IB wx B4 h' ∧ w2.heap.size ≤ B4 ∧ Below w2.heap.size w2 wx)
  case first =>
    go_region_held3 (fun w' => w'.cell? ⟨w.heap.size, 2, none⟩ = some (.slice (some ⟨b, off, none⟩) (s.size + 1) d) ∧ w'.cell? ⟨b, off, none⟩ = some (.int .u8 q) ∧ w'.cell? ⟨BI, 0, none⟩ = some (.int .i64 h) ∧ (convert 28 9 (.slice (some ⟨b, oA, none⟩) s.size (d - 1))).run Tryd.prog w' = .ok (.string s) w')
      (first | (simp [*]; done) | ((try dsimp only); (repeat' apply And.intro) <;> first | (simp [*]; done) | go_keep | exact HSTR.out _ ((Upd.of_below HB3.out _).setCell _ _ (fun h => absurd h (Nat.lt_irrefl _))) | exact HSTR.out _ ((Upd.of_below HB3.out _).alloc _)))
      (first
        | (go_at_call 15; refine (HC.out _ (by first | exact (Upd.refl _ _).drew | exact ((Upd.refl _ _).alloc _).drew)).mono ?_; rintro e w3 ⟨rfl, z0, z1, z2, hB3, hB3'⟩; have HB3 := Lib.hid hB3; have z5 := HSTR.out w3 (Upd.of_below hB3 _); (first | (have hz := (show IB w3 w2.heap.size 0 from (hB3'.block w2.heap.size (by simp)).trans (heap_alloc_new w2 _)); obtain ⟨z3, z4⟩ := hz.cells; have HZ := Lib.hid hz; clear hz) | skip); clear hB3 hB3')
        | fail)
    all_goals (go_wp2_with fail; go_meet)
    all_goals first
      | exact ⟨w3.heap.size, rfl, rfl, rfl, heap_alloc_new w3 _, HB3.out.size, HB3.out.alloc HB3.out.size _⟩
      | exact ⟨w2.heap.size, rfl, rfl, rfl, HZ.out.set0 h', Nat.le_refl _, HB3.out.setCell (p := ⟨w2.heap.size, 0, none⟩) (Nat.le_refl _) _⟩
  case rest =>
    obtain ⟨B4, rfl, rfl, rfl, hI4, hz4, hB4⟩ := hcut
    have hIx : IB wc BI h := (hB4.block _ hlI).trans HI.out
    have hTx : TB wc BT tv := (hB4.block _ (lt_of_heap HT.out)).trans HT.out
    have hSx : SS wc tv told := HS.out.upd (Upd.of_below hB4 (fun _ => False)) (fun _ _ h => h)
    have hne : BI ≠ BT := by
      intro e
      subst e
      have h1 := HI.out
      have h2 := HT.out
      unfold IB at h1
      unfold TB at h2
      rw [h1] at h2
      simp at h2
    have hBx : Below w.heap.size w wc := HU2.out.trans (hB4.mono HU2.out.size)
    have hlt4 := lt_of_heap hI4
    have hBT := lt_of_heap HT.out
    have hbI := own_block_ne hSx hIx (by decide)
    have hbT := own_block_ne hSx hTx (by decide)
    have hb4 := own_block_ne hSx hI4 (by decide)
    obtain ⟨u0, u1⟩ := hI4.cells
    obtain ⟨v0, v1⟩ := hIx.cells
    obtain ⟨r0, r1⟩ := hTx.cell
    have n7 : ¬ BI = B4 := by omega
    have n8 : ¬ B4 = BI := by omega
    have n9 : ¬ BT = B4 := by omega
    have n10 : ¬ B4 = BT := by omega
    have n11 : ¬ BI = BT := hne
    have n12 : ¬ BT = BI := fun h => hne h.symm
    have HIx := Lib.hid hIx
    have HTx := Lib.hid hTx
    have HI4 := Lib.hid hI4
    have HSx := Lib.hid hSx
    have HBx := Lib.hid hBx
    have HbI := Lib.hid hbI
    have HbT := Lib.hid hbT
    have Hb4 := Lib.hid hb4
    have hsx := hBx.size
    clear hIx hTx hSx hI4 hBx hB4 hbI hbT hb4 x0 x1 x2 y0 y1 c0
    rcases HCase.out with ⟨hq, hh', hs', hc0⟩ | ⟨hq, hh', hc0⟩
    · have Hq := Lib.hid hq
      have Hh := Lib.hid hh'
      subst hs'
      subst hc0
      clear hq hh'
      have HS1 : Hid ((wc.alloc (.cells #[.string s'] 9)).ownsRow 0 9 1 tv told.length (cellsOf encS told)) := HSx.out.upd ((Upd.refl (fun _ => False) wc).alloc _) (fun _ _ h => h)
      go_wp2_with (at_builtin; refine wpList_append_own_at _ rfl _ _ 45 rfl 0 9 i0 (.string ⟨#[]⟩) 1 16 Tryd.underlying45 hi0 hz0 hz1 hz2 rfl (by decide) _ _ _ rfl HS1.out ⟨wc.heap.size, 0, none⟩ 1 1 [.string s'] rfl ?qa1 ?qa2 ?qa3 ?qa4 ?qa5 ?qa6 ?_)
      case qa3 => first | rfl | simp [Value.oneCell']
      case qa4 => unfold maxLen; omega
      case qa5 => omega
      intro v5 w5 hown5 hgrow5 hnil5 hat5
      have hU5 : Upd (fun k => tv.ownBlock = some k) wc w5 := ((Upd.refl (fun k => tv.ownBlock = some k) wc).alloc _).trans (Upd.of_grown hgrow5) (fun _ _ h => h)
      have hI5 : IB w5 BI h := hU5.heap HIx.out HbI.out
      have hT5 : TB w5 BT tv := hU5.heap HTx.out HbT.out
      have h45 : IB w5 B4 h' := hU5.heap HI4.out Hb4.out
      have hS5 : SS w5 v5 (told ++ [s']) := by
        rw [SS, List.length_append, cellsOf_append, cellsOf_one]; exact hown5
      obtain ⟨a5, d5, rfl⟩ := hS5.slice
      have hl5 : (told ++ [s']).length = told.length + 1 := by rw [List.length_append]; rfl
      rw [hl5] at hS5 hat5 ⊢
      clear hl5
      obtain ⟨v5, hv5⟩ : ∃ v5, v5 = Value.slice a5 (told.length + 1) d5 := ⟨_, rfl⟩
      rw [← hv5] at hS5 hat5
      have hx5 : ∀ k, v5.ownBlock = some k → tv.ownBlock = some k ∨ w.heap.size ≤ k := by
        intro k hk
        rcases hat5 with e | e
        · exact .inl (e ▸ hk)
        · rw [e] at hk
          cases hk
          right
          have e1 := World.size_alloc wc (.cells #[.string s'] 9)
          omega
      have hbI5 := own_block_ne hS5 hI5 (by decide)
      have hbT5 := own_block_ne hS5 hT5 (by decide)
      have HU5 := Lib.hid hU5
      have HI5 := Lib.hid hI5
      have HT5 := Lib.hid hT5
      have HS5 := Lib.hid hS5
      have HX5 := Lib.hid hx5
      have HbI5 := Lib.hid hbI5
      have HbT5 := Lib.hid hbT5
      clear u0 u1 v0 v1 r0 r1
      obtain ⟨u0, u1⟩ := h45.cells
      obtain ⟨v0, v1⟩ := hI5.cells
      obtain ⟨r0, r1⟩ := hT5.cell
      have HV5 := Lib.hid hv5
      clear hv5
      clear hown5 hgrow5 hnil5 hat5 hU5 hI5 hT5 h45 hS5 hx5 hbI5 hbT5
      go_wp2_with fail
      go_end0
      obtain rfl := HV5.out
      refine ⟨rfl, h', .slice a5 (told.length + 1) d5, told ++ [s'], .inl ⟨Hq.out, Hh.out, rfl⟩, (HI5.out |> fun h => blk_far h ⟨BT, 0, none⟩ n11 _ |> fun h => IB.set0 h h'), ?_, ?_, HX5.out, ?_⟩
      · exact (blk_far (HT5.out.set0 _) ⟨BI, 0, none⟩ n12 _)
      · exact ownsRow_setCell_far (ownsRow_setCell_far HS5.out ⟨BT, 0, none⟩ _ HbT5.out) ⟨BI, 0, none⟩ _ HbI5.out
      · have h1 : Upd (fun k => k = BI ∨ k = BT ∨ tv.ownBlock = some k) w w5 := ((Upd.of_below HBx.out (fun k => tv.ownBlock = some k)).trans HU5.out (fun _ _ h => h)).mono (fun _ _ h => .inr (.inr h))
        exact (h1.setCell ⟨BT, 0, none⟩ _ (fun _ => .inr (.inl rfl))).setCell ⟨BI, 0, none⟩ _ (fun _ => .inl rfl)
    · have Hh := Lib.hid hh'
      clear hh'
      go_wp2_with fail
      go_end0
      refine ⟨rfl, h', tv, told, .inr ⟨hq, Hh.out, rfl⟩, IB.set0 HIx.out h', blk_far HTx.out ⟨BI, 0, none⟩ n12 _, ownsRow_setCell_far HSx.out ⟨BI, 0, none⟩ _ HbI.out, fun k h => .inl h, ?_⟩
      exact (Upd.of_below HBx.out _).setCell ⟨BI, 0, none⟩ _ (fun _ => .inl rfl)
end Go.Proofs.YtehgbpepaakanaaDoor
