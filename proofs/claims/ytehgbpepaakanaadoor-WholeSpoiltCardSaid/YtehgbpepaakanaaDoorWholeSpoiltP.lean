/-
  Proved here: the Go function waystationtop.WholeSpoilt returns true for every input, and leaves each argument reading as it read before; the listed package variables (unicode/utf8.acceptRanges, unicode/utf8.first) as the program's text lays them.
  The walk is in YtehgbpepaakanaaDoorFa, the row in YtehgbpepaakanaaDoorSp, the card in YtehgbpepaakanaaDoorCs, note.Decode of a good frame in YtehgbpepaakanaaDoorEf.
-/
import Derived.Test.YtehgbpepaakanaaDoorCs
import Derived.Test.YtehgbpepaakanaaDoorEf
namespace Go.Proofs.YtehgbpepaakanaaDoor.wholeSpoilt
open Go

/-- The statement. -/
theorem proved : Rows.WholeSpoiltCardSaid := card (fun b off d n w h h8 hb hd hd2 hc => dec_good b off d n w h h8 hb hd hd2 hc)
#print axioms proved
end Go.Proofs.YtehgbpepaakanaaDoor.wholeSpoilt
