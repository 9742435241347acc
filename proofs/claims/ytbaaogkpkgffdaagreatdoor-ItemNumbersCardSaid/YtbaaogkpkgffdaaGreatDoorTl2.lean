/- A part of an executor of the model over abstract values, and what it tells of the calls. -/
import Derived.Shelf.Strings.SlTrimAscii
import Derived.Ground.Names2Prog
import Derived.Ground.SlgnProg
import Derived.Test.YtbaaogkpkgffdaaGreatDoorProg
namespace Go.Proofs
open Go.Shelf
def Tryz.lays161_ren : Go.Shelf.Ren := ⟨fun | 161 => 107 | 231 => 133 | 227 => 134 | 233 => 135 | 235 => 136 | 228 => 168 | 197 => 169 | 151 => 170 | 260 => 190 | 152 => 191 | 137 => 209 | 119 => 210 | 224 => 211 | 225 => 212 | 217 => 223 | 266 => 237 | n => n, fun | 9 => 9 | 4 => 4 | 3 => 3 | 5 => 5 | 117 => 236 | 116 => 235 | 0 => 0 | 124 => 239 | 105 => 271 | 21 => 21 | 119 => 230 | 46 => 321 | 139 => 325 | 138 => 324 | n => n, fun | 3 => 2 | 4 => 3 | n => n⟩
theorem Tryz.lays161 : Go.Proofs.Lays.n161 Tryz.prog Tryz.lays161_ren := {
  mixed := by kernel_rfl
  f119 := Tryz.func210.trans (congrArg some (by kernel_rfl))
  f137 := Tryz.func209.trans (congrArg some (by kernel_rfl))
  f151 := Tryz.func170.trans (congrArg some (by kernel_rfl))
  f152 := Tryz.func191.trans (congrArg some (by kernel_rfl))
  f161 := Tryz.func107.trans (congrArg some (by kernel_rfl))
  f197 := Tryz.func169.trans (congrArg some (by kernel_rfl))
  f217 := Tryz.func223.trans (congrArg some (by kernel_rfl))
  f224 := Tryz.func211.trans (congrArg some (by kernel_rfl))
  f225 := Tryz.func212.trans (congrArg some (by kernel_rfl))
  f227 := Tryz.func134.trans (congrArg some (by kernel_rfl))
  f228 := Tryz.func168.trans (congrArg some (by kernel_rfl))
  f231 := Tryz.func133.trans (congrArg some (by kernel_rfl))
  f233 := Tryz.func135.trans (congrArg some (by kernel_rfl))
  f235 := Tryz.func136.trans (congrArg some (by kernel_rfl))
  f260 := Tryz.func190.trans (congrArg some (by kernel_rfl))
  f266 := Tryz.func237.trans (congrArg some (by kernel_rfl))
  t0 := Tryz.underlying0
  a0 := Tryz.isAgg0
  z0 := Tryz.sizeOf0
  v0 := Tryz.zeroValue0
  t3 := Tryz.underlying3
  a3 := Tryz.isAgg3
  z3 := Tryz.sizeOf3
  v3 := Tryz.zeroValue3
  t4 := Tryz.underlying4
  a4 := Tryz.isAgg4
  z4 := Tryz.sizeOf4
  v4 := Tryz.zeroValue4
  t5 := Tryz.underlying5
  a5 := Tryz.isAgg5
  z5 := Tryz.sizeOf5
  v5 := Tryz.zeroValue5
  t9 := Tryz.underlying9
  a9 := Tryz.isAgg9
  z9 := Tryz.sizeOf9
  v9 := Tryz.zeroValue9
  t21 := Tryz.underlying21
  a21 := Tryz.isAgg21
  z21 := Tryz.sizeOf21
  v21 := Tryz.zeroValue21
  t46 := Tryz.underlying321
  a46 := Tryz.isAgg321
  z46 := Tryz.sizeOf321
  v46 := Tryz.zeroValue321
  t105 := Tryz.underlying271
  a105 := Tryz.isAgg271
  z105 := Tryz.sizeOf271
  v105 := Tryz.zeroValue271
  t116 := Tryz.underlying235
  a116 := Tryz.isAgg235
  z116 := Tryz.sizeOf235
  t117 := Tryz.underlying236
  a117 := Tryz.isAgg236
  z117 := Tryz.sizeOf236
  v117 := Tryz.zeroValue236
  t119 := Tryz.underlying230
  a119 := Tryz.isAgg230
  z119 := Tryz.sizeOf230
  t124 := Tryz.underlying239
  a124 := Tryz.isAgg239
  z124 := Tryz.sizeOf239
  v124 := Tryz.zeroValue239
  t138 := Tryz.underlying324
  a138 := Tryz.isAgg324
  z138 := Tryz.sizeOf324
  v138 := Tryz.zeroValue324
  t139 := Tryz.underlying325
  a139 := Tryz.isAgg325
  z139 := Tryz.sizeOf325
  v139 := Tryz.zeroValue325
  g3 := by kernel_rfl
  g4 := by kernel_rfl }
end Go.Proofs
