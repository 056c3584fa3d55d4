/-
  No cell of these rows narrows 'for every input' (looked for: loops, veiled, ifaces, maps, wideKeys, modest, calm, conditions, laid).
  DERIVED. THE GIVEN ROWS OF THIS SEAT. 6 by the template 'for every input the law returns true; each argument reads behind the call as it read before'; 0 by the template 'total and deterministic' (their statements: YthehhnlkpcfofaaTotals.lean).
  GIVEN WITH THE SEED: the statements are not yours to turn. If you find one false, say at which input.
  Laid BY PROGRAM, IN A SANDBOX (cutbox-rows.mjs): the forced cells as the released guide's own fill.sh prints them over the translation 45fe1f16e48304e2… (all of the seat's roots in one cut). By AI agents, Wed Nov 11 2026. No macro, syntax, notation, axiom, sorry.
-/
import Derived.Test.YthehhnlkpcfofaaChecked
import GoSem.Claim
import GoSem.ClaimJoined
import GoSem.ClaimMapViews
import Derived.JoinedTies
import Derived.KernelRfl
namespace Go.Proofs.Ythehhnlkpcfofaa
/- THE CELL 'sum', in the pinned program and in every row, IS THE sha256 OF THE DUMP (.gsa) THAT YthehhnlkpcfofaaProg.lean LOADS. Nothing in Lean hashes anything: it is a label: what it is worth is what the hold of that sum in a sandbox is worth. -/
noncomputable def Try.pinned : Pinned := { name := "ythehhnlkpcfofaa", sum := "45fe1f16e48304e224240f613cba6e60b5b9b0c9cc2a817e6c6707733102b79c", checked := Try.checked }
namespace Rows
def none {H : Type} : Left H := { results := [], args := [] }

/-- 'waystationlaw01.RingRow': WHATEVER THE INPUT: true; the input reads as it did. -/
def ringRowSpec : ChangeSpec := { name := "ringRow", fn := fun _ => fun
  | [d1, d2] => { results := [.lit (.bool true)], args := [d1, d2] }
  | _ => none }
def ringRowRow : OpenClaim := { program := "ythehhnlkpcfofaa", sum := "45fe1f16e48304e224240f613cba6e60b5b9b0c9cc2a817e6c6707733102b79c", func := "waystation/waystationlaw01.RingRow", spec := "ringRow", apart := false }
def RingRowSaid : Prop := ringRowRow.holds Try.pinned (OpenSpec.ofChange ringRowSpec)

/-- ITS FALSE NEIGHBOUR: 'it returns false'. Refute it at one input. -/
def ringRowWrong : ChangeSpec := { name := "ringRow", fn := fun _ => fun
  | [d1, d2] => { results := [.lit (.bool false)], args := [d1, d2] }
  | _ => none }
def RingRowWrongFalsely : Prop := ringRowRow.holds Try.pinned (OpenSpec.ofChange ringRowWrong)

/-- 'waystationlaw01.RingThrough': WHATEVER THE INPUT: true; the input reads as it did. -/
def ringThroughSpec : ChangeSpec := { name := "ringThrough", fn := fun _ => fun
  | [d1, d2] => { results := [.lit (.bool true)], args := [d1, d2] }
  | _ => none }
def ringThroughRow : OpenClaim := { program := "ythehhnlkpcfofaa", sum := "45fe1f16e48304e224240f613cba6e60b5b9b0c9cc2a817e6c6707733102b79c", func := "waystation/waystationlaw01.RingThrough", spec := "ringThrough", unfollowed := true, recurses := true, apart := false }
def RingThroughSaid : Prop := ringThroughRow.holds Try.pinned (OpenSpec.ofChange ringThroughSpec)

/-- ITS FALSE NEIGHBOUR: 'it returns false'. Refute it at one input. -/
def ringThroughWrong : ChangeSpec := { name := "ringThrough", fn := fun _ => fun
  | [d1, d2] => { results := [.lit (.bool false)], args := [d1, d2] }
  | _ => none }
def RingThroughWrongFalsely : Prop := ringThroughRow.holds Try.pinned (OpenSpec.ofChange ringThroughWrong)

/-- 'waystationlaw01.RingRoom': WHATEVER THE INPUT: true; the input reads as it did. -/
def ringRoomSpec : ChangeSpec := { name := "ringRoom", fn := fun _ => fun
  | [d1, d2] => { results := [.lit (.bool true)], args := [d1, d2] }
  | _ => none }
def ringRoomRow : OpenClaim := { program := "ythehhnlkpcfofaa", sum := "45fe1f16e48304e224240f613cba6e60b5b9b0c9cc2a817e6c6707733102b79c", func := "waystation/waystationlaw01.RingRoom", spec := "ringRoom", unfollowed := true, recurses := true, apart := false }
def RingRoomSaid : Prop := ringRoomRow.holds Try.pinned (OpenSpec.ofChange ringRoomSpec)

/-- ITS FALSE NEIGHBOUR: 'it returns false'. Refute it at one input. -/
def ringRoomWrong : ChangeSpec := { name := "ringRoom", fn := fun _ => fun
  | [d1, d2] => { results := [.lit (.bool false)], args := [d1, d2] }
  | _ => none }
def RingRoomWrongFalsely : Prop := ringRoomRow.holds Try.pinned (OpenSpec.ofChange ringRoomWrong)

/-- 'waystationlaw01.RingActs': WHATEVER THE INPUT: true; the input reads as it did. -/
def ringActsSpec : ChangeSpec := { name := "ringActs", fn := fun _ => fun
  | [d1, d2] => { results := [.lit (.bool true)], args := [d1, d2] }
  | _ => none }
def ringActsRow : OpenClaim := { program := "ythehhnlkpcfofaa", sum := "45fe1f16e48304e224240f613cba6e60b5b9b0c9cc2a817e6c6707733102b79c", func := "waystation/waystationlaw01.RingActs", spec := "ringActs", unfollowed := true, recurses := true, apart := false }
def RingActsSaid : Prop := ringActsRow.holds Try.pinned (OpenSpec.ofChange ringActsSpec)

/-- ITS FALSE NEIGHBOUR: 'it returns false'. Refute it at one input. -/
def ringActsWrong : ChangeSpec := { name := "ringActs", fn := fun _ => fun
  | [d1, d2] => { results := [.lit (.bool false)], args := [d1, d2] }
  | _ => none }
def RingActsWrongFalsely : Prop := ringActsRow.holds Try.pinned (OpenSpec.ofChange ringActsWrong)

/-- 'waystationlaw01.RingTypes': WHATEVER THE INPUT: true; the input reads as it did. -/
def ringTypesSpec : ChangeSpec := { name := "ringTypes", fn := fun _ => fun
  | [d1, d2] => { results := [.lit (.bool true)], args := [d1, d2] }
  | _ => none }
def ringTypesRow : OpenClaim := { program := "ythehhnlkpcfofaa", sum := "45fe1f16e48304e224240f613cba6e60b5b9b0c9cc2a817e6c6707733102b79c", func := "waystation/waystationlaw01.RingTypes", spec := "ringTypes", unfollowed := true, recurses := true, apart := false }
def RingTypesSaid : Prop := ringTypesRow.holds Try.pinned (OpenSpec.ofChange ringTypesSpec)

/-- ITS FALSE NEIGHBOUR: 'it returns false'. Refute it at one input. -/
def ringTypesWrong : ChangeSpec := { name := "ringTypes", fn := fun _ => fun
  | [d1, d2] => { results := [.lit (.bool false)], args := [d1, d2] }
  | _ => none }
def RingTypesWrongFalsely : Prop := ringTypesRow.holds Try.pinned (OpenSpec.ofChange ringTypesWrong)

/-- 'waystationlaw01.RingDrops': WHATEVER THE INPUT: true; the input reads as it did. -/
def ringDropsSpec : ChangeSpec := { name := "ringDrops", fn := fun _ => fun
  | [d1, d2] => { results := [.lit (.bool true)], args := [d1, d2] }
  | _ => none }
def ringDropsRow : OpenClaim := { program := "ythehhnlkpcfofaa", sum := "45fe1f16e48304e224240f613cba6e60b5b9b0c9cc2a817e6c6707733102b79c", func := "waystation/waystationlaw01.RingDrops", spec := "ringDrops", unfollowed := true, recurses := true, apart := false }
def RingDropsSaid : Prop := ringDropsRow.holds Try.pinned (OpenSpec.ofChange ringDropsSpec)

/-- ITS FALSE NEIGHBOUR: 'it returns false'. Refute it at one input. -/
def ringDropsWrong : ChangeSpec := { name := "ringDrops", fn := fun _ => fun
  | [d1, d2] => { results := [.lit (.bool false)], args := [d1, d2] }
  | _ => none }
def RingDropsWrongFalsely : Prop := ringDropsRow.holds Try.pinned (OpenSpec.ofChange ringDropsWrong)

/- THE SECOND FORM. 'bulk': how many values and letters a reading holds, each counted each time it is reached (what is shared counts as often as it is met; a slice's spare places count too). A statement '..UptoSaid' is the law's where the arguments, and the package variables that the reading takes, are together of bulk at most 1048576: NARROWER than '..Said'. Prove '..Said' where nothing that the law and all that it calls make is longer than what came in: it says more and counts as full. Else prove '..UptoSaid'. A law counts once. -/
mutual
def uptoBulk {H : Type} : DataW H → Nat
  | .lit (.string bytes) => bytes.length + 1
  | .lit _ => 1
  | .nil => 1
  | .ptr d => uptoBulk d + 1
  | .slice elems spare => uptoBulkAll elems + uptoBulkAll spare + 1
  | .agg parts => uptoBulkAll parts + 1
  | .iface _ d => uptoBulk d + 1
  | .map entries => uptoBulkEntries entries + 1
  | .held _ => 1
def uptoBulkAll {H : Type} : List (DataW H) → Nat
  | [] => 0
  | d :: r => uptoBulk d + uptoBulkAll r
def uptoBulkEntries {H : Type} : List (Lit × DataW H) → Nat
  | [] => 0
  | x :: r => uptoBulkEntry x + uptoBulkEntries r
def uptoBulkEntry {H : Type} : Lit × DataW H → Nat
  | (.string bytes, d) => bytes.length + uptoBulk d + 1
  | (_, d) => uptoBulk d + 1
 end
def uptoSmall : (H : Type) → List (DataW H) → Bool := fun _ ds => decide (uptoBulkAll ds ≤ 1048576)
def OpenSpec.upto (s : _root_.Go.ChangeSpec) : _root_.Go.OpenSpec := { _root_.Go.OpenSpec.ofChange s with cond := some uptoSmall }

/-- 'waystationlaw01.RingRow', WHERE WHAT IT READS IS OF BULK AT MOST 1048576: true; the input reads as it did. -/
def ringRowUptoRow : OpenClaim := { program := "ythehhnlkpcfofaa", sum := "45fe1f16e48304e224240f613cba6e60b5b9b0c9cc2a817e6c6707733102b79c", func := "waystation/waystationlaw01.RingRow", spec := "ringRow", apart := false, narrowed := true }
def RingRowUptoSaid : Prop := ringRowUptoRow.holds Try.pinned (OpenSpec.upto ringRowSpec)

/-- 'waystationlaw01.RingThrough', WHERE WHAT IT READS IS OF BULK AT MOST 1048576: true; the input reads as it did. -/
def ringThroughUptoRow : OpenClaim := { program := "ythehhnlkpcfofaa", sum := "45fe1f16e48304e224240f613cba6e60b5b9b0c9cc2a817e6c6707733102b79c", func := "waystation/waystationlaw01.RingThrough", spec := "ringThrough", unfollowed := true, recurses := true, apart := false, narrowed := true }
def RingThroughUptoSaid : Prop := ringThroughUptoRow.holds Try.pinned (OpenSpec.upto ringThroughSpec)

/-- 'waystationlaw01.RingRoom', WHERE WHAT IT READS IS OF BULK AT MOST 1048576: true; the input reads as it did. -/
def ringRoomUptoRow : OpenClaim := { program := "ythehhnlkpcfofaa", sum := "45fe1f16e48304e224240f613cba6e60b5b9b0c9cc2a817e6c6707733102b79c", func := "waystation/waystationlaw01.RingRoom", spec := "ringRoom", unfollowed := true, recurses := true, apart := false, narrowed := true }
def RingRoomUptoSaid : Prop := ringRoomUptoRow.holds Try.pinned (OpenSpec.upto ringRoomSpec)

/-- 'waystationlaw01.RingActs', WHERE WHAT IT READS IS OF BULK AT MOST 1048576: true; the input reads as it did. -/
def ringActsUptoRow : OpenClaim := { program := "ythehhnlkpcfofaa", sum := "45fe1f16e48304e224240f613cba6e60b5b9b0c9cc2a817e6c6707733102b79c", func := "waystation/waystationlaw01.RingActs", spec := "ringActs", unfollowed := true, recurses := true, apart := false, narrowed := true }
def RingActsUptoSaid : Prop := ringActsUptoRow.holds Try.pinned (OpenSpec.upto ringActsSpec)

/-- 'waystationlaw01.RingTypes', WHERE WHAT IT READS IS OF BULK AT MOST 1048576: true; the input reads as it did. -/
def ringTypesUptoRow : OpenClaim := { program := "ythehhnlkpcfofaa", sum := "45fe1f16e48304e224240f613cba6e60b5b9b0c9cc2a817e6c6707733102b79c", func := "waystation/waystationlaw01.RingTypes", spec := "ringTypes", unfollowed := true, recurses := true, apart := false, narrowed := true }
def RingTypesUptoSaid : Prop := ringTypesUptoRow.holds Try.pinned (OpenSpec.upto ringTypesSpec)

/-- 'waystationlaw01.RingDrops', WHERE WHAT IT READS IS OF BULK AT MOST 1048576: true; the input reads as it did. -/
def ringDropsUptoRow : OpenClaim := { program := "ythehhnlkpcfofaa", sum := "45fe1f16e48304e224240f613cba6e60b5b9b0c9cc2a817e6c6707733102b79c", func := "waystation/waystationlaw01.RingDrops", spec := "ringDrops", unfollowed := true, recurses := true, apart := false, narrowed := true }
def RingDropsUptoSaid : Prop := ringDropsUptoRow.holds Try.pinned (OpenSpec.upto ringDropsSpec)

end Rows
end Go.Proofs.Ythehhnlkpcfofaa
