/-
  DERIVED: THE SHELF's CONTRACTS AT THIS DUMP, IN PLAIN WORDS (tools/lay-plain.mjs out of 'TryzKeys.lean', which tools/lay-shelf.mjs wrote): THE SAME DECLARATIONS UNDER THE SAME NAMES: 'import', 'namespace', 'open', 'def', 'theorem' AND NOTHING ELSE: no command of the shelf's: FOR A HAND-IN. Each laying: the table of numbers ('.._ren') and one theorem, a field a fact of the dump's own or the kernel's comparison; each contract: ONE APPLICATION.
-/
import Derived.Shelf.SlIterI.Nil
import Derived.Ground.GgzProg
import Derived.Test.YtdmmlkkemceifaaGreatDoorProg
namespace Go.Proofs
open Go.Shelf
def Tryz.keysA_ren : Go.Shelf.Ren := ⟨fun | 7 => 65 | 10 => 103 | n => n, fun | 23 => 80 | 26 => 3 | 3 => 34 | 28 => 122 | 0 => 0 | 27 => 121 | 33 => 117 | 4 => 4 | n => n, fun | n => n⟩
theorem Tryz.keysA : Go.Proofs.SlLaysZI.n7 Tryz.prog Tryz.keysA_ren := {
  mixed := by kernel_rfl
  f7 := ⟨Tryz.f65.name, by decide, Tryz.func65.trans (congrArg some (by kernel_rfl))⟩
  f10 := ⟨Tryz.f103.name, by decide, Tryz.func103.trans (congrArg some (by kernel_rfl))⟩
  t0 := Tryz.underlying0
  a0 := Tryz.isAgg0
  z0 := Tryz.sizeOf0
  v0 := Tryz.zeroValue0
  t4 := Tryz.underlying4
  a4 := Tryz.isAgg4
  z4 := Tryz.sizeOf4
  v4 := Tryz.zeroValue4
  t23 := Tryz.underlying80
  a23 := Tryz.isAgg80
  z23 := Tryz.sizeOf80
  v23 := Tryz.zeroValue80
  t26 := Tryz.underlying3
  a26 := Tryz.isAgg3
  z26 := Tryz.sizeOf3
  v26 := Tryz.zeroValue3
  t27 := Tryz.underlying121
  a27 := Tryz.isAgg121
  z27 := Tryz.sizeOf121
  v27 := Tryz.zeroValue121
  t28 := Tryz.underlying122
  a28 := Tryz.isAgg122
  z28 := Tryz.sizeOf122
  v28 := Tryz.zeroValue122
  t33 := Tryz.underlying117
  a33 := Tryz.isAgg117
  z33 := Tryz.sizeOf117
  v33 := Tryz.zeroValue117 }
def Tryz.sortedA_ren : Go.Shelf.Ren := ⟨fun | 6 => 64 | 8 => 102 | 9 => 87 | 11 => 117 | 13 => 112 | 12 => 111 | 23 => 128 | 24 => 129 | 14 => 119 | 15 => 120 | 16 => 121 | 17 => 122 | 18 => 123 | 19 => 124 | 20 => 125 | 21 => 126 | 22 => 127 | 25 => 137 | 26 => 138 | 27 => 139 | 28 => 140 | 29 => 141 | 30 => 142 | 31 => 147 | n => n, fun | 26 => 3 | 28 => 122 | 24 => 22 | 0 => 0 | 3 => 3 | 37 => 32 | 48 => 197 | 50 => 97 | 4 => 4 | 40 => 191 | 39 => 190 | 45 => 152 | 5 => 5 | 9 => 9 | 51 => 204 | 55 => 208 | 57 => 213 | 58 => 214 | 33 => 117 | n => n, fun | n => n⟩
theorem Tryz.sortedA : Go.Proofs.SlLaysZI.n6 Tryz.prog Tryz.sortedA_ren := {
  mixed := by kernel_rfl
  f6 := ⟨Tryz.f64.name, by decide, Tryz.func64.trans (congrArg some (by kernel_rfl))⟩
  f8 := ⟨Tryz.f102.name, by decide, Tryz.func102.trans (congrArg some (by kernel_rfl))⟩
  f11 := ⟨Tryz.f117.name, by decide, Tryz.func117.trans (congrArg some (by kernel_rfl))⟩
  t0 := Tryz.underlying0
  a0 := Tryz.isAgg0
  z0 := Tryz.sizeOf0
  v0 := Tryz.zeroValue0
  t24 := Tryz.underlying22
  a24 := Tryz.isAgg22
  z24 := Tryz.sizeOf22
  v24 := Tryz.zeroValue22
  t26 := Tryz.underlying3
  a26 := Tryz.isAgg3
  z26 := Tryz.sizeOf3
  v26 := Tryz.zeroValue3
  t28 := Tryz.underlying122
  a28 := Tryz.isAgg122
  z28 := Tryz.sizeOf122
  v28 := Tryz.zeroValue122
  i26 := by kernel_rfl }
end Go.Proofs
