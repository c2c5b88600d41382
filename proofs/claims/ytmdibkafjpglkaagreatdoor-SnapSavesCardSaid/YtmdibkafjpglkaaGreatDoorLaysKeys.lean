/-
  DERIVED: THE SHELF's CONTRACTS AT THIS DUMP, IN PLAIN WORDS (tools/lay-plain.mjs out of 'TryzShelf.lean', which tools/lay-shelf.mjs wrote): THE SAME DECLARATIONS UNDER THE SAME NAMES: 'import', 'namespace', 'open', 'def', 'theorem' AND NOTHING ELSE: no command of the shelf's: FOR A HAND-IN. Each laying: the table of numbers ('.._ren') and one theorem, a field a fact of the dump's own or the kernel's comparison; each contract: ONE APPLICATION.
-/
import Derived.Test.YtmdibkafjpglkaaGreatDoorProg
import Derived.Ground.NamesProg
import Derived.Shelf.SlIter.Nil
import Derived.Shelf.SortM.Plain
import Derived.Shelf.SortM.SortNone
import Derived.Ground.GgzProg
import Derived.Ground.SlgmProg
namespace Go.Proofs
open Go.Shelf
def Tryz.lays68_ren : Go.Shelf.Ren := ⟨fun | 7 => 68 | 10 => 98 | n => n, fun | 23 => 52 | 26 => 9 | 3 => 61 | 28 => 118 | 0 => 0 | 27 => 117 | 33 => 62 | 4 => 4 | n => n, fun | n => n⟩
theorem Tryz.lays68 : Go.Proofs.SlLaysZ.n7 Tryz.prog Tryz.lays68_ren := {
  mixed := by kernel_rfl
  f7 := ⟨Tryz.f68.name, by decide, Tryz.func68.trans (congrArg some (by kernel_rfl))⟩
  f10 := ⟨Tryz.f98.name, by decide, Tryz.func98.trans (congrArg some (by kernel_rfl))⟩
  t0 := Tryz.underlying0
  a0 := Tryz.isAgg0
  z0 := Tryz.sizeOf0
  v0 := Tryz.zeroValue0
  t4 := Tryz.underlying4
  a4 := Tryz.isAgg4
  z4 := Tryz.sizeOf4
  v4 := Tryz.zeroValue4
  t23 := Tryz.underlying52
  a23 := Tryz.isAgg52
  z23 := Tryz.sizeOf52
  v23 := Tryz.zeroValue52
  t26 := Tryz.underlying9
  a26 := Tryz.isAgg9
  z26 := Tryz.sizeOf9
  v26 := Tryz.zeroValue9
  t27 := Tryz.underlying117
  a27 := Tryz.isAgg117
  z27 := Tryz.sizeOf117
  v27 := Tryz.zeroValue117
  t28 := Tryz.underlying118
  a28 := Tryz.isAgg118
  z28 := Tryz.sizeOf118
  v28 := Tryz.zeroValue118
  t33 := Tryz.underlying62
  a33 := Tryz.isAgg62
  z33 := Tryz.sizeOf62
  v33 := Tryz.zeroValue62 }
def Tryz.lays67_ren : Go.Shelf.Ren := ⟨fun | 6 => 67 | 8 => 96 | 9 => 97 | 11 => 128 | 13 => 104 | 12 => 129 | 23 => 138 | 24 => 99 | 14 => 162 | 15 => 163 | 16 => 164 | 17 => 165 | 18 => 166 | 19 => 167 | 20 => 168 | 21 => 169 | 22 => 170 | 25 => 192 | 26 => 172 | 27 => 173 | 28 => 193 | 29 => 194 | 30 => 195 | 31 => 212 | n => n, fun | 26 => 9 | 28 => 118 | 24 => 77 | 0 => 0 | 3 => 3 | 37 => 110 | 48 => 68 | 50 => 70 | 4 => 4 | 40 => 180 | 39 => 179 | 45 => 158 | 5 => 5 | 9 => 9 | 51 => 213 | 55 => 216 | 57 => 240 | 58 => 241 | 33 => 62 | n => n, fun | n => n⟩
theorem Tryz.lays67 : Go.Proofs.SlLaysZ.n6 Tryz.prog Tryz.lays67_ren := {
  mixed := by kernel_rfl
  f6 := ⟨Tryz.f67.name, by decide, Tryz.func67.trans (congrArg some (by kernel_rfl))⟩
  f8 := ⟨Tryz.f96.name, by decide, Tryz.func96.trans (congrArg some (by kernel_rfl))⟩
  f11 := ⟨Tryz.f128.name, by decide, Tryz.func128.trans (congrArg some (by kernel_rfl))⟩
  t0 := Tryz.underlying0
  a0 := Tryz.isAgg0
  z0 := Tryz.sizeOf0
  v0 := Tryz.zeroValue0
  t24 := Tryz.underlying77
  a24 := Tryz.isAgg77
  z24 := Tryz.sizeOf77
  v24 := Tryz.zeroValue77
  t26 := Tryz.underlying9
  a26 := Tryz.isAgg9
  z26 := Tryz.sizeOf9
  v26 := Tryz.zeroValue9
  t28 := Tryz.underlying118
  a28 := Tryz.isAgg118
  z28 := Tryz.sizeOf118
  v28 := Tryz.zeroValue118
  i26 := by kernel_rfl }
def Tryz.lays97_ren : Go.Shelf.Ren := ⟨fun | 6 => 97 | 8 => 104 | 9 => 129 | 19 => 138 | 20 => 99 | 21 => 162 | 22 => 163 | 23 => 164 | 24 => 165 | 25 => 166 | 26 => 167 | 27 => 168 | 28 => 169 | 29 => 170 | 36 => 192 | 31 => 172 | 32 => 173 | 37 => 193 | 38 => 194 | 39 => 195 | 41 => 212 | n => n, fun | 27 => 77 | 29 => 9 | 3 => 3 | 32 => 110 | 26 => 77 | 0 => 0 | 44 => 68 | 46 => 70 | 4 => 4 | 36 => 180 | 35 => 179 | 41 => 158 | 5 => 5 | 9 => 9 | 53 => 213 | 57 => 216 | 63 => 240 | 64 => 241 | n => n, fun | n => n⟩
theorem Tryz.lays97 : Go.Proofs.SlLaysM.n6 Tryz.prog Tryz.lays97_ren := {
  mixed := by kernel_rfl
  f6 := ⟨Tryz.f97.name, by decide, Tryz.func97.trans (congrArg some (by kernel_rfl))⟩
  f8 := Tryz.func104.trans (congrArg some (by kernel_rfl))
  f9 := ⟨Tryz.f129.name, by decide, Tryz.func129.trans (congrArg some (by kernel_rfl))⟩
  f19 := Tryz.func138.trans (congrArg some (by kernel_rfl))
  f20 := Tryz.func99.trans (congrArg some (by kernel_rfl))
  f21 := ⟨Tryz.f162.name, by decide, Tryz.func162.trans (congrArg some (by kernel_rfl))⟩
  f22 := ⟨Tryz.f163.name, by decide, Tryz.func163.trans (congrArg some (by kernel_rfl))⟩
  f23 := ⟨Tryz.f164.name, by decide, Tryz.func164.trans (congrArg some (by kernel_rfl))⟩
  f24 := ⟨Tryz.f165.name, by decide, Tryz.func165.trans (congrArg some (by kernel_rfl))⟩
  f25 := ⟨Tryz.f166.name, by decide, Tryz.func166.trans (congrArg some (by kernel_rfl))⟩
  f26 := ⟨Tryz.f167.name, by decide, Tryz.func167.trans (congrArg some (by kernel_rfl))⟩
  f27 := ⟨Tryz.f168.name, by decide, Tryz.func168.trans (congrArg some (by kernel_rfl))⟩
  f28 := ⟨Tryz.f169.name, by decide, Tryz.func169.trans (congrArg some (by kernel_rfl))⟩
  f29 := ⟨Tryz.f170.name, by decide, Tryz.func170.trans (congrArg some (by kernel_rfl))⟩
  f31 := Tryz.func172.trans (congrArg some (by kernel_rfl))
  f32 := Tryz.func173.trans (congrArg some (by kernel_rfl))
  f36 := ⟨Tryz.f192.name, by decide, Tryz.func192.trans (congrArg some (by kernel_rfl))⟩
  f37 := ⟨Tryz.f193.name, by decide, Tryz.func193.trans (congrArg some (by kernel_rfl))⟩
  f38 := ⟨Tryz.f194.name, by decide, Tryz.func194.trans (congrArg some (by kernel_rfl))⟩
  f39 := ⟨Tryz.f195.name, by decide, Tryz.func195.trans (congrArg some (by kernel_rfl))⟩
  f41 := ⟨Tryz.f212.name, by decide, Tryz.func212.trans (congrArg some (by kernel_rfl))⟩
  t0 := Tryz.underlying0
  a0 := Tryz.isAgg0
  z0 := Tryz.sizeOf0
  v0 := Tryz.zeroValue0
  t3 := Tryz.underlying3
  a3 := Tryz.isAgg3
  z3 := Tryz.sizeOf3
  v3 := Tryz.zeroValue3
  t4 := Tryz.underlying4
  a4 := Tryz.isAgg4
  z4 := Tryz.sizeOf4
  v4 := Tryz.zeroValue4
  t5 := Tryz.underlying5
  a5 := Tryz.isAgg5
  z5 := Tryz.sizeOf5
  v5 := Tryz.zeroValue5
  t9 := Tryz.underlying9
  a9 := Tryz.isAgg9
  z9 := Tryz.sizeOf9
  v9 := Tryz.zeroValue9
  t26 := Tryz.underlying77
  a26 := Tryz.isAgg77
  z26 := Tryz.sizeOf77
  v26 := Tryz.zeroValue77
  t27 := Tryz.underlying77
  a27 := Tryz.isAgg77
  z27 := Tryz.sizeOf77
  v27 := Tryz.zeroValue77
  t29 := Tryz.underlying9
  a29 := Tryz.isAgg9
  z29 := Tryz.sizeOf9
  v29 := Tryz.zeroValue9
  t32 := Tryz.underlying110
  a32 := Tryz.isAgg110
  z32 := Tryz.sizeOf110
  v32 := Tryz.zeroValue110
  t35 := Tryz.underlying179
  a35 := Tryz.isAgg179
  z35 := Tryz.sizeOf179
  v35 := Tryz.zeroValue179
  t36 := Tryz.underlying180
  a36 := Tryz.isAgg180
  z36 := Tryz.sizeOf180
  v36 := Tryz.zeroValue180
  t41 := Tryz.underlying158
  a41 := Tryz.isAgg158
  z41 := Tryz.sizeOf158
  v41 := Tryz.zeroValue158
  t44 := Tryz.underlying68
  a44 := Tryz.isAgg68
  z44 := Tryz.sizeOf68
  v44 := Tryz.zeroValue68
  t46 := Tryz.underlying70
  a46 := Tryz.isAgg70
  z46 := Tryz.sizeOf70
  v46 := Tryz.zeroValue70
  t53 := Tryz.underlying213
  a53 := Tryz.isAgg213
  z53 := Tryz.sizeOf213
  v53 := Tryz.zeroValue213
  t57 := Tryz.underlying216
  a57 := Tryz.isAgg216
  z57 := Tryz.sizeOf216
  v57 := Tryz.zeroValue216
  t63 := Tryz.underlying240
  a63 := Tryz.isAgg240
  z63 := Tryz.sizeOf240
  v63 := Tryz.zeroValue240
  t64 := Tryz.underlying241
  a64 := Tryz.isAgg241
  z64 := Tryz.sizeOf241
  v64 := Tryz.zeroValue241 }
end Go.Proofs
