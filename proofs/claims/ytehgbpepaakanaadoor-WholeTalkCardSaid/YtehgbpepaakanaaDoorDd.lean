/-
  Code: the reader's number.
-/
import Derived.Test.YtehgbpepaakanaaDoorDc
import Derived.Laws.Bits64b
namespace Go.Proofs.YtehgbpepaakanaaDoor
open Go.RowKit Go.Shelf
set_option linter.unusedVariables false
set_option linter.unusedSimpArgs false
set_option maxRecDepth 20000

attribute [local go_sem] Oper.semAt_some

/-- The number of bytes, the greatest first. -/
def ofBe (ts : List Int) : Int := ts.foldl (fun n c => n * 256 + c) 0
theorem ofBe_snoc (ts : List Int) (c : Int) : ofBe (ts ++ [c]) = ofBe ts * 256 + c := by simp [ofBe]
theorem ofBe_next (ts : List Int) (j : Nat) (c : Int) (h : ts[j]? = some c) : ofBe (ts.take (j + 1)) = ofBe (ts.take j) * 256 + c := by
  rw [List.take_add_one, h]; exact ofBe_snoc _ _
theorem ofBe_take_range (ts : List Int) (hb : Byts ts) (j : Nat) : 0 ≤ ofBe (ts.take j) ∧ ofBe (ts.take j) < 256 ^ j := by
  induction j with
  | zero => simp [ofBe]
  | succ j ih =>
    by_cases h : j < ts.length
    · have e : ts[j]? = some ts[j] := List.getElem?_eq_getElem h
      rw [ofBe_next ts j _ e]
      have := hb _ (List.mem_of_getElem? e)
      rw [Int.pow_succ]
      omega
    · rw [List.take_of_length_le (by omega)] at ih ⊢
      rw [Int.pow_succ]
      have : (0 : Int) < 256 ^ j := Int.pow_pos (by decide)
      omega
theorem ofBe_be_take (w n k : Nat) (hk : k ≤ w) (hn : n < 256 ^ w) : ofBe ((List.range k).map (beAt w n)) = ((n / 2 ^ (8 * (w - k)) : Nat) : Int) := by
  induction k with
  | zero =>
    have e : (256 : Nat) ^ w = 2 ^ (8 * w) := by rw [Nat.pow_mul]
    rw [e] at hn
    rw [Nat.sub_zero, Nat.div_eq_of_lt hn]
    rfl
  | succ k ih =>
    rw [List.range_succ, List.map_append, List.map_singleton, ofBe_snoc, ih (by omega)]
    have e1 : w - k = (w - 1 - k) + 1 := by omega
    have e2 : w - (k + 1) = w - 1 - k := by omega
    rw [e2, e1, Nat.mul_add, Nat.pow_add, ← Nat.div_div_eq_div_mul]
    unfold beAt
    have e3 : ((n : Int) / 2 ^ (8 * (w - 1 - k))) = ((n / 2 ^ (8 * (w - 1 - k)) : Nat) : Int) := by rw [Int.natCast_ediv]; congr 1
    rw [e3]
    generalize n / 2 ^ (8 * (w - 1 - k)) = q
    have e4 : (2 : Nat) ^ (8 * 1) = 256 := by decide
    rw [e4]
    omega
theorem ofBe_be (w n : Nat) (hn : n < 256 ^ w) : ofBe (be w n) = (n : Int) := by
  have := ofBe_be_take w n w (Nat.le_refl _) hn
  simpa [be] using this
theorem be_len (w n : Nat) : (be w n).length = w := by simp [be]
theorem be_byts (w n : Nat) : Byts (be w n) := by
  intro x hx
  simp only [be, List.mem_map] at hx
  obtain ⟨j, _, rfl⟩ := hx
  unfold beAt
  omega

theorem or8 (n c : Int) (hn0 : 0 ≤ n) (hn1 : n < 72057594037927936) (hc0 : 0 ≤ c) (hc1 : c < 256) : bits .or .u64 (n * 256) c = n * 256 + c := by
  obtain ⟨a, rfl⟩ := Int.eq_ofNat_of_zero_le hn0
  obtain ⟨b, rfl⟩ := Int.eq_ofNat_of_zero_le hc0
  have h2 : b < 2 ^ 8 := by omega
  have key : (256 * a ||| b) = 256 * a + b := (Nat.two_pow_add_eq_or_of_lt (i := 8) h2 a).symm
  have e : ((a : Int) * 256) = ((256 * a : Nat) : Int) := by omega
  have h3 : b < 256 := by omega
  rw [e, bits_or_u64_nat _ _ (by omega) (by omega), key]
  omega

set_option maxHeartbeats 1000000 in
theorem number58 (B : Nat) (bs : List Int) (n : Nat) (w : World) (h : RS w B bs) (hn : n ≤ bs.length) (hn8 : n ≤ 8) (hB : Byts bs) :
    Calls Tryd.prog 58 #[.pointer (some ⟨B, 0, none⟩), .int .i64 n] w fun e w' => e = .returned (.int .u64 (ofBe (bs.take n))) ∧ RS w' B (bs.drop n) ∧ Upd (fun k => k = B) w w' := by
  have HT := Lib.hid (take_is B bs n w h hn)
  have hb := hB.take n
  have hlen : (bs.take n).length = n := by rw [List.length_take]; omega
  obtain ⟨ts, hts⟩ : ∃ ts, ts = bs.take n := ⟨_, rfl⟩
  rw [← hts] at HT hb hlen ⊢
  clear h hts
  go_enter Tryd.func58, Tryd.ntmps58
  go_wp2_with fail
  refine HT.out.mono ?_
  rintro e w1 ⟨a', d', rfl, hR, hS, hU⟩
  have HS := Lib.hid hS
  have HU := Lib.hid hU
  have HR := Lib.hid hR
  clear hS hU hR
  go_wp2_with fail
  go_loopw [5, 12] (fun v i wr => ∃ j : Nat, j ≤ n ∧ i = .int .i64 j ∧ v = .int .u64 (ofBe (ts.take j)) ∧ wr = w1) (fun _ i _ => n - (RowKit.intOf i).toNat)
  case atStart => exact ⟨0, Nat.zero_le _, rfl, rfl, rfl⟩
  case round =>
    obtain ⟨j, hj, rfl, rfl, rfl⟩ := hrel
    by_cases hlt : j < n
    · rcases HR.out with ⟨rfl, _⟩ | ⟨b, off, rfl, hlt2, hl, hd, hdm, hc⟩
      · omega
      · obtain ⟨c, hcj⟩ : ∃ c, ts[j]? = some c := ⟨_, List.getElem?_eq_getElem (by omega)⟩
        have hcell := hc j c hcj
        have hc01 := hb _ (List.mem_of_getElem? hcj)
        obtain ⟨hc0, hc1⟩ := hc01
        have hr := ofBe_take_range ts hb j
        have HN := Lib.hid (ofBe_next ts j c hcj)
        obtain ⟨q, hq⟩ : ∃ q, q = ofBe (ts.take j) := ⟨_, rfl⟩
        rw [← hq] at hr HN ⊢
        have hp : (256 : Int) ^ j ≤ 256 ^ 7 := by
          have : (256 : Nat) ^ j ≤ 256 ^ 7 := Nat.pow_le_pow_right (by decide) (by omega)
          exact_mod_cast this
        have hq1 : q < 72057594037927936 := Int.lt_of_lt_of_le hr.2 hp
        have hq0 := hr.1
        have hor := or8 q c hq0 hq1 hc0 hc1
        have hji : (j : Int) < (n : Int) := by omega
        clear hcj hq hc hr hp
        go_wp2_with fail
        exact ⟨⟨j + 1, by omega, by simp, by rw [HN.out], trivial⟩, by simp [RowKit.intOf]; omega⟩
    · obtain rfl : j = n := by omega
      have hall : ts.take j = ts := List.take_of_length_le (by omega)
      rw [hall]
      go_wp2_with fail
      go_ret
      exact ⟨rfl, HS.out, HU.out⟩
end Go.Proofs.YtehgbpepaakanaaDoor
