/-
  AirApart, at the arguments as they came in.
-/
import Derived.Test.YtehgbpepaakanaaO3
import Derived.Test.YtehgbpepaakanaaAb
namespace Go.Proofs.Ytehgbpepaakanaa
open Go.RowKit
set_option linter.unusedVariables false

theorem apart_walk (a : Option Addr) (n cap : Nat) (xs : List Ac) (en : Int) (w : World) (hx : Acts w a xs) (hn : xs.length = n) (hn2 : (n : Int) ≤ 9223372036854775807) (he : (Lit.int .u8 en).wf = true) : Calls Try.prog 5 #[.slice a n cap, .int .u8 en] w fun e w' => e = .returned (.bool true) ∧ Below w.heap.size w w' := by
  have h1 := bounds_u8 he
  obtain ⟨en, rfl⟩ := Int.eq_ofNat_of_zero_le h1.1
  exact apart_true a n cap xs en w hx hn hn2 (by omega)

end Go.Proofs.Ytehgbpepaakanaa
