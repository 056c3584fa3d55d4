/-
  Proved here: the Go function waystationtop.WholeTalk returns true for every input, and leaves each argument reading as it read before; the listed package variables (unicode/utf8.acceptRanges, unicode/utf8.first) as the program's text lays them.
  The walk is in YtehgbpepaakanaaDoorTl, the row in YtehgbpepaakanaaDoorTm; this text closes the tied card.
-/
import Derived.Test.YtehgbpepaakanaaDoorCards
import Derived.Test.YtehgbpepaakanaaDoorTie
import Derived.Test.YtehgbpepaakanaaDoorTm
import Derived.SevenTiedAt
namespace Go.Proofs.YtehgbpepaakanaaDoor.wholeTalk
open Go

theorem proved : Rows.WholeTalkCardSaid :=
  Claim7.holds_tied_plain_at .later [] [.data, .pinned] true (true, "648ae668a2f453a6e0089ec735b132fa3b66b927223f86bad4b436b6cad2de7e") false
    over (fun _ h => by cases h) (by kernel_rfl) (fun _ h => by cases h) wholeTalk_row_tie rfl ⟨rfl, rfl⟩ (by kernel_rfl) rfl
    (fun f fn hf hfn => by
      obtain rfl : f = 4 := Option.some.inj ((show Tryd.prog.funcNamed "waystation/waystationtop.WholeTalk" = some 4 by kernel_rfl).symm.trans hf) |>.symm
      obtain rfl : fn = Tryd.f4 := (Option.some.inj (Tryd.func4.symm.trans hfn)).symm
      exact ⟨by kernel_rfl, fun j t ht => by
        rw [Tryd.params4] at ht
        have h3 : t = 45 ∨ t = 28 := by
          rcases j with _ | _ | j
          · exact .inl (by simpa using ht.symm)
          · exact .inr (by simpa using ht.symm)
          · simp at ht
        rcases h3 with rfl | rfl
        · exact (show Tryd.prog.wantsStandIn 45 = false by kernel_rfl)
        · exact (show Tryd.prog.wantsStandIn 28 = false by kernel_rfl)⟩)
    (by kernel_rfl)
#print axioms proved
end Go.Proofs.YtehgbpepaakanaaDoor.wholeTalk
