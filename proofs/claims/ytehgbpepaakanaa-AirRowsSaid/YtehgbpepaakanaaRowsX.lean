/-
  Air: AirRows, at the arguments as they came in.
-/
import Derived.Test.YtehgbpepaakanaaO2
import Derived.Test.YtehgbpepaakanaaRowsW
namespace Go.Proofs.Ytehgbpepaakanaa
open Go.RowKit
set_option linter.unusedVariables false

theorem rows_walk (a : Option Addr) (n cap : Nat) (xs : List SB) (p q : Int) (w : World) (hx : Bs2 w a xs) (hn : xs.length = n) (hn2 : (n : Int) ≤ 9223372036854775807) (hp : (Lit.int .u8 p).wf = true) (hq : (Lit.int .u8 q).wf = true) : Calls Try.prog 3 #[.slice a n cap, .int .u8 p, .int .u8 q] w fun e w' => e = .returned (.bool true) ∧ Below w.heap.size w w' := by
  have h1 := bounds_u8 hp
  have h2 := bounds_u8 hq
  obtain ⟨p, rfl⟩ := Int.eq_ofNat_of_zero_le h1.1
  obtain ⟨q, rfl⟩ := Int.eq_ofNat_of_zero_le h2.1
  exact rows_true a n cap xs p q w hx hn (by omega) (by omega)

end Go.Proofs.Ytehgbpepaakanaa
