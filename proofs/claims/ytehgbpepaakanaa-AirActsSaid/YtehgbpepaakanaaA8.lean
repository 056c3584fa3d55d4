/-
  AirActs, at the arguments as they came in.
-/
import Derived.Test.YtehgbpepaakanaaO3
import Derived.Test.YtehgbpepaakanaaA7
namespace Go.Proofs.Ytehgbpepaakanaa
open Go.RowKit
set_option linter.unusedVariables false

theorem acts_walk (room : Int) (a : Option Addr) (n cap : Nat) (xs : List Ac) (w : World) (hr : (Lit.int .i64 room).wf = true) (hx : Acts w a xs) (hn : xs.length = n) (hn2 : (n : Int) ≤ 9223372036854775807) : Calls Try.prog 4 #[.int .i64 room, .slice a n cap] w fun e w' => e = .returned (.bool true) ∧ Below w.heap.size w w' :=
  acts_true room a n cap xs w hx hn hn2

end Go.Proofs.Ytehgbpepaakanaa
