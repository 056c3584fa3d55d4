/-
  DERIVED. GIVEN WITH THE SEED: THE CARDS: each row of YtehgbpepaakanaaDoorRows.lean that lists a variable, with what it lists TIED to the program's text (the seventh form; the later family's looks); each row that meets fmt, with fmt's text TOLD by the authors' own Lean function (tested against real Go, not proved from fmt's source: count such statements apart). THE CARD IS WHAT COUNTS. Prove the row's statement (the work); the ties are given (YtehgbpepaakanaaDoorTie.lean); close each card by the builder's one call (the guide's Derived/Test/ToyasCard.lean, 'card_holds'). Laid BY PROGRAM, IN A SANDBOX (cutbox-door.mjs). By AI agents, Wed Nov 11 2026. No macro, syntax, notation, axiom, sorry.
-/
import Derived.Test.YtehgbpepaakanaaDoorRows
import GoSem.ClaimSeven
namespace Go.Proofs.YtehgbpepaakanaaDoor
namespace Rows

/-- THE TIED CARD OF 'waystationtop.WholeSpoilt'. -/
def wholeSpoiltCard : Claim7 := { stood := { row := wholeSpoiltRow, standIns := [], harness := (true, "648ae668a2f453a6e0089ec735b132fa3b66b927223f86bad4b436b6cad2de7e"), looks := false }, kinds := [], alts := [], laidByText := true, laidKinds := [.data, .pinned], laidTests := true, laidLooks := .later }
def WholeSpoiltCardSaid : Prop := Claim7.holds Tryd.pinned (.plain (OpenSpec.ofChange wholeSpoiltSpec)) wholeSpoiltCard

/-- THE TIED CARD OF 'waystationtop.WholeTalk'. -/
def wholeTalkCard : Claim7 := { stood := { row := wholeTalkRow, standIns := [], harness := (true, "648ae668a2f453a6e0089ec735b132fa3b66b927223f86bad4b436b6cad2de7e"), looks := false }, kinds := [], alts := [], laidByText := true, laidKinds := [.data, .pinned], laidTests := true, laidLooks := .later }
def WholeTalkCardSaid : Prop := Claim7.holds Tryd.pinned (.plain (OpenSpec.ofChange wholeTalkSpec)) wholeTalkCard

/-- THE SECOND FORM's CARD OF 'waystationtop.WholeSpoilt'. -/
def wholeSpoiltUptoCard : Claim7 := { stood := { row := wholeSpoiltUptoRow, standIns := [], harness := (true, "648ae668a2f453a6e0089ec735b132fa3b66b927223f86bad4b436b6cad2de7e"), looks := false }, kinds := [], alts := [], laidByText := true, laidKinds := [.data, .pinned], laidTests := true, laidLooks := .later }
def WholeSpoiltUptoCardSaid : Prop := Claim7.holds Tryd.pinned (.plain (OpenSpec.upto wholeSpoiltSpec)) wholeSpoiltUptoCard

/-- THE SECOND FORM's CARD OF 'waystationtop.WholeTalk'. -/
def wholeTalkUptoCard : Claim7 := { stood := { row := wholeTalkUptoRow, standIns := [], harness := (true, "648ae668a2f453a6e0089ec735b132fa3b66b927223f86bad4b436b6cad2de7e"), looks := false }, kinds := [], alts := [], laidByText := true, laidKinds := [.data, .pinned], laidTests := true, laidLooks := .later }
def WholeTalkUptoCardSaid : Prop := Claim7.holds Tryd.pinned (.plain (OpenSpec.upto wholeTalkSpec)) wholeTalkUptoCard
end Rows
end Go.Proofs.YtehgbpepaakanaaDoor
