/-
  Proved here: the Go function waystationtop.WholeSpoilt returns true for every input, and leaves each argument reading as it read before; the listed package variables (unicode/utf8.acceptRanges, unicode/utf8.first) as the program's text lays them.
  The walk is in YtehgbpepaakanaaDoorFa, the row in YtehgbpepaakanaaDoorSp; this text closes the tied card.
-/
import Derived.Test.YtehgbpepaakanaaDoorCards
import Derived.Test.YtehgbpepaakanaaDoorTie
import Derived.Test.YtehgbpepaakanaaDoorSp
import Derived.SevenTiedAt
namespace Go.Proofs.YtehgbpepaakanaaDoor.wholeSpoilt
open Go

theorem card (HG : DecGood) : Rows.WholeSpoiltCardSaid :=
  Claim7.holds_tied_plain_at .later [] [.data, .pinned] true (true, "648ae668a2f453a6e0089ec735b132fa3b66b927223f86bad4b436b6cad2de7e") false
    (over HG) (fun _ h => by cases h) (by kernel_rfl) (fun _ h => by cases h) wholeSpoilt_row_tie rfl ⟨rfl, rfl⟩ (by kernel_rfl) rfl
    (fun f fn hf hfn => by
      obtain rfl : f = 3 := Option.some.inj ((show Tryd.prog.funcNamed "waystation/waystationtop.WholeSpoilt" = some 3 by kernel_rfl).symm.trans hf) |>.symm
      obtain rfl : fn = Tryd.f3 := (Option.some.inj (Tryd.func3.symm.trans hfn)).symm
      exact ⟨by kernel_rfl, fun j t ht => by
        rw [Tryd.params3] at ht
        have h3 : t = 25 ∨ t = 26 ∨ t = 5 := by
          rcases j with _ | _ | _ | j
          · exact .inl (by simpa using ht.symm)
          · exact .inr (.inl (by simpa using ht.symm))
          · exact .inr (.inr (by simpa using ht.symm))
          · simp at ht
        rcases h3 with rfl | rfl | rfl
        · exact (show Tryd.prog.wantsStandIn 25 = false by kernel_rfl)
        · exact (show Tryd.prog.wantsStandIn 26 = false by kernel_rfl)
        · exact (show Tryd.prog.wantsStandIn 5 = false by kernel_rfl)⟩)
    (by kernel_rfl)
end Go.Proofs.YtehgbpepaakanaaDoor.wholeSpoilt
