/-
  DERIVED: THE SHELF's CONTRACTS AT THIS DUMP, IN PLAIN WORDS (tools/lay-plain.mjs out of 'TryzKeys.lean', which tools/lay-shelf.mjs wrote): THE SAME DECLARATIONS UNDER THE SAME NAMES: 'import', 'namespace', 'open', 'def', 'theorem' AND NOTHING ELSE: no command of the shelf's: FOR A HAND-IN. Each laying: the table of numbers ('.._ren') and one theorem, a field a fact of the dump's own or the kernel's comparison; each contract: ONE APPLICATION.
-/
import Derived.Shelf.SlIterI.Nil
import Derived.Ground.GgzProg
import Derived.Test.YthjbpbahcemfgaaGreatDoorProg
namespace Go.Proofs
open Go.Shelf
def Tryz.keysA_ren : Go.Shelf.Ren := ⟨fun | 7 => 102 | 10 => 135 | n => n, fun | 23 => 127 | 26 => 3 | 3 => 52 | 28 => 180 | 0 => 0 | 27 => 179 | 33 => 64 | 4 => 4 | n => n, fun | n => n⟩
theorem Tryz.keysA : Go.Proofs.SlLaysZI.n7 Tryz.prog Tryz.keysA_ren := {
  mixed := by kernel_rfl
  f7 := ⟨Tryz.f102.name, by decide, Tryz.func102.trans (congrArg some (by kernel_rfl))⟩
  f10 := ⟨Tryz.f135.name, by decide, Tryz.func135.trans (congrArg some (by kernel_rfl))⟩
  t0 := Tryz.underlying0
  a0 := Tryz.isAgg0
  z0 := Tryz.sizeOf0
  v0 := Tryz.zeroValue0
  t4 := Tryz.underlying4
  a4 := Tryz.isAgg4
  z4 := Tryz.sizeOf4
  v4 := Tryz.zeroValue4
  t23 := Tryz.underlying127
  a23 := Tryz.isAgg127
  z23 := Tryz.sizeOf127
  v23 := Tryz.zeroValue127
  t26 := Tryz.underlying3
  a26 := Tryz.isAgg3
  z26 := Tryz.sizeOf3
  v26 := Tryz.zeroValue3
  t27 := Tryz.underlying179
  a27 := Tryz.isAgg179
  z27 := Tryz.sizeOf179
  v27 := Tryz.zeroValue179
  t28 := Tryz.underlying180
  a28 := Tryz.isAgg180
  z28 := Tryz.sizeOf180
  v28 := Tryz.zeroValue180
  t33 := Tryz.underlying64
  a33 := Tryz.isAgg64
  z33 := Tryz.sizeOf64
  v33 := Tryz.zeroValue64 }
def Tryz.sortedA_ren : Go.Shelf.Ren := ⟨fun | 6 => 101 | 8 => 134 | 9 => 99 | 11 => 165 | 13 => 123 | 12 => 133 | 23 => 151 | 24 => 152 | 14 => 156 | 15 => 157 | 16 => 158 | 17 => 159 | 18 => 160 | 19 => 161 | 20 => 162 | 21 => 163 | 22 => 164 | 25 => 180 | 26 => 176 | 27 => 177 | 28 => 181 | 29 => 182 | 30 => 183 | 31 => 190 | n => n, fun | 26 => 3 | 28 => 180 | 24 => 92 | 0 => 0 | 3 => 3 | 37 => 137 | 48 => 239 | 50 => 89 | 4 => 4 | 40 => 233 | 39 => 232 | 45 => 176 | 5 => 5 | 9 => 9 | 51 => 252 | 55 => 256 | 57 => 263 | 58 => 264 | 33 => 64 | n => n, fun | n => n⟩
theorem Tryz.sortedA : Go.Proofs.SlLaysZI.n6 Tryz.prog Tryz.sortedA_ren := {
  mixed := by kernel_rfl
  f6 := ⟨Tryz.f101.name, by decide, Tryz.func101.trans (congrArg some (by kernel_rfl))⟩
  f8 := ⟨Tryz.f134.name, by decide, Tryz.func134.trans (congrArg some (by kernel_rfl))⟩
  f11 := ⟨Tryz.f165.name, by decide, Tryz.func165.trans (congrArg some (by kernel_rfl))⟩
  t0 := Tryz.underlying0
  a0 := Tryz.isAgg0
  z0 := Tryz.sizeOf0
  v0 := Tryz.zeroValue0
  t24 := Tryz.underlying92
  a24 := Tryz.isAgg92
  z24 := Tryz.sizeOf92
  v24 := Tryz.zeroValue92
  t26 := Tryz.underlying3
  a26 := Tryz.isAgg3
  z26 := Tryz.sizeOf3
  v26 := Tryz.zeroValue3
  t28 := Tryz.underlying180
  a28 := Tryz.isAgg180
  z28 := Tryz.sizeOf180
  v28 := Tryz.zeroValue180
  i26 := by kernel_rfl }
end Go.Proofs
