/-
  The shelf's contract of strings.Trim, laid at this seat's program: the numbers, and a field a fact of the program's own.
  The laying's text is by the kit's own tool (lay-plain).
-/
import Derived.Test.YtehgbpepaakanaaDoorProg
import Derived.WalkKit
import Derived.Ground.NamesProg
import Derived.Shelf.Strings.SlTrimAscii
namespace Go.Proofs.YtehgbpepaakanaaDoor
open Go.Shelf
def Tryd.lays160_ren : Go.Shelf.Ren := ⟨fun | 160 => 61 | 232 => 64 | 231 => 63 | 227 => 65 | 234 => 67 | 233 => 66 | 236 => 69 | 235 => 68 | 228 => 71 | 271 => 74 | 151 => 73 | 197 => 72 | 120 => 77 | 152 => 76 | 260 => 75 | 137 => 78 | 119 => 79 | 224 => 80 | 225 => 81 | 217 => 82 | 266 => 83 | n => n, fun | 9 => 9 | 4 => 4 | 3 => 3 | 5 => 5 | 117 => 147 | 116 => 146 | 0 => 0 | 124 => 150 | 21 => 21 | 105 => 153 | 46 => 124 | 119 => 157 | 139 => 160 | 138 => 159 | n => n, fun | 3 => 0 | 4 => 1 | n => n⟩
theorem Tryd.lays160 : Go.Proofs.Lays.n160 Tryd.prog Tryd.lays160_ren := {
  mixed := by kernel_rfl
  f119 := Tryd.func79.trans (congrArg some (by kernel_rfl))
  f120 := Tryd.func77.trans (congrArg some (by kernel_rfl))
  f137 := Tryd.func78.trans (congrArg some (by kernel_rfl))
  f151 := Tryd.func73.trans (congrArg some (by kernel_rfl))
  f152 := Tryd.func76.trans (congrArg some (by kernel_rfl))
  f160 := Tryd.func61.trans (congrArg some (by kernel_rfl))
  f197 := Tryd.func72.trans (congrArg some (by kernel_rfl))
  f217 := Tryd.func82.trans (congrArg some (by kernel_rfl))
  f224 := Tryd.func80.trans (congrArg some (by kernel_rfl))
  f225 := Tryd.func81.trans (congrArg some (by kernel_rfl))
  f227 := Tryd.func65.trans (congrArg some (by kernel_rfl))
  f228 := Tryd.func71.trans (congrArg some (by kernel_rfl))
  f231 := Tryd.func63.trans (congrArg some (by kernel_rfl))
  f232 := Tryd.func64.trans (congrArg some (by kernel_rfl))
  f233 := Tryd.func66.trans (congrArg some (by kernel_rfl))
  f234 := Tryd.func67.trans (congrArg some (by kernel_rfl))
  f235 := Tryd.func68.trans (congrArg some (by kernel_rfl))
  f236 := Tryd.func69.trans (congrArg some (by kernel_rfl))
  f260 := Tryd.func75.trans (congrArg some (by kernel_rfl))
  f266 := Tryd.func83.trans (congrArg some (by kernel_rfl))
  f271 := Tryd.func74.trans (congrArg some (by kernel_rfl))
  t0 := Tryd.underlying0
  a0 := Tryd.isAgg0
  z0 := Tryd.sizeOf0
  v0 := Tryd.zeroValue0
  t3 := Tryd.underlying3
  a3 := Tryd.isAgg3
  z3 := Tryd.sizeOf3
  v3 := Tryd.zeroValue3
  t4 := Tryd.underlying4
  a4 := Tryd.isAgg4
  z4 := Tryd.sizeOf4
  v4 := Tryd.zeroValue4
  t5 := Tryd.underlying5
  a5 := Tryd.isAgg5
  z5 := Tryd.sizeOf5
  v5 := Tryd.zeroValue5
  t9 := Tryd.underlying9
  a9 := Tryd.isAgg9
  z9 := Tryd.sizeOf9
  v9 := Tryd.zeroValue9
  t21 := Tryd.underlying21
  a21 := Tryd.isAgg21
  z21 := Tryd.sizeOf21
  v21 := Tryd.zeroValue21
  t46 := Tryd.underlying124
  a46 := Tryd.isAgg124
  z46 := Tryd.sizeOf124
  v46 := Tryd.zeroValue124
  t105 := Tryd.underlying153
  a105 := Tryd.isAgg153
  z105 := Tryd.sizeOf153
  v105 := Tryd.zeroValue153
  t116 := Tryd.underlying146
  a116 := Tryd.isAgg146
  z116 := Tryd.sizeOf146
  t117 := Tryd.underlying147
  a117 := Tryd.isAgg147
  z117 := Tryd.sizeOf147
  v117 := Tryd.zeroValue147
  t119 := Tryd.underlying157
  a119 := Tryd.isAgg157
  z119 := Tryd.sizeOf157
  t124 := Tryd.underlying150
  a124 := Tryd.isAgg150
  z124 := Tryd.sizeOf150
  v124 := Tryd.zeroValue150
  t138 := Tryd.underlying159
  a138 := Tryd.isAgg159
  z138 := Tryd.sizeOf159
  v138 := Tryd.zeroValue159
  t139 := Tryd.underlying160
  a139 := Tryd.isAgg160
  z139 := Tryd.sizeOf160
  v139 := Tryd.zeroValue160
  g3 := by kernel_rfl
  g4 := by kernel_rfl }
end Go.Proofs.YtehgbpepaakanaaDoor
