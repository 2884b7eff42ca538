/-
  DERIVED: THE SHELF's CONTRACTS AT THIS DUMP, IN PLAIN WORDS (tools/lay-plain.mjs out of 'TryzShelf.lean', which tools/lay-shelf.mjs wrote): THE SAME DECLARATIONS UNDER THE SAME NAMES: 'import', 'namespace', 'open', 'def', 'theorem' AND NOTHING ELSE: no command of the shelf's: FOR A HAND-IN. Each laying: the table of numbers ('.._ren') and one theorem, a field a fact of the dump's own or the kernel's comparison; each contract: ONE APPLICATION.
-/
import Derived.Ground.SlgcProg
import Derived.Ground.SlsfProg
import Derived.Shelf.SlicesG.Cmp
import Derived.Shelf.SlSortCmp.WholeK
import Derived.Test.YtdjpeimecfhdjaaGreatProg
namespace Go.Proofs
open Go.Shelf
def Tryz.cmpInt_ren : Go.Shelf.Ren := ⟨fun | 5 => 225 | 7 => 256 | n => n, fun | 22 => 3 | 3 => 3 | 4 => 4 | n => n, fun | n => n⟩
theorem Tryz.cmpInt : Go.Proofs.SlLaysC2.n5 Tryz.prog Tryz.cmpInt_ren := {
  mixed := by kernel_rfl
  f5 := ⟨Tryz.f225.name, by decide, Tryz.func225.trans (congrArg some (by kernel_rfl))⟩
  f7 := ⟨Tryz.f256.name, by decide, Tryz.func256.trans (congrArg some (by kernel_rfl))⟩
  t3 := Tryz.underlying3
  a3 := Tryz.isAgg3
  z3 := Tryz.sizeOf3
  v3 := Tryz.zeroValue3
  t4 := Tryz.underlying4
  a4 := Tryz.isAgg4
  z4 := Tryz.sizeOf4
  v4 := Tryz.zeroValue4
  t22 := Tryz.underlying3
  a22 := Tryz.isAgg3
  z22 := Tryz.sizeOf3
  v22 := Tryz.zeroValue3 }
def Tryz.sortQ_ren : Go.Shelf.Ren := ⟨fun | 6 => 169 | 15 => 224 | 14 => 223 | 28 => 254 | 29 => 255 | 20 => 246 | 21 => 247 | 22 => 248 | 23 => 249 | 24 => 250 | 25 => 251 | 26 => 252 | 27 => 253 | 46 => 262 | 47 => 263 | 48 => 264 | 49 => 265 | 50 => 266 | 57 => 279 | n => n, fun | 22 => 88 | 24 => 148 | 25 => 201 | 3 => 3 | 39 => 227 | 0 => 0 | 53 => 190 | 55 => 184 | 4 => 4 | 46 => 261 | 45 => 260 | 50 => 99 | 5 => 5 | 9 => 9 | 66 => 271 | 70 => 275 | 76 => 282 | 77 => 228 | n => n, fun | n => n⟩
theorem Tryz.sortQ : Go.Proofs.SlLaysF0.n6 Tryz.prog Tryz.sortQ_ren := {
  mixed := by kernel_rfl
  f6 := ⟨Tryz.f169.name, by decide, Tryz.func169.trans (congrArg some (by kernel_rfl))⟩
  f14 := ⟨Tryz.f223.name, by decide, Tryz.func223.trans (congrArg some (by kernel_rfl))⟩
  f15 := Tryz.func224.trans (congrArg some (by kernel_rfl))
  f20 := ⟨Tryz.f246.name, by decide, Tryz.func246.trans (congrArg some (by kernel_rfl))⟩
  f21 := ⟨Tryz.f247.name, by decide, Tryz.func247.trans (congrArg some (by kernel_rfl))⟩
  f22 := ⟨Tryz.f248.name, by decide, Tryz.func248.trans (congrArg some (by kernel_rfl))⟩
  f23 := ⟨Tryz.f249.name, by decide, Tryz.func249.trans (congrArg some (by kernel_rfl))⟩
  f24 := ⟨Tryz.f250.name, by decide, Tryz.func250.trans (congrArg some (by kernel_rfl))⟩
  f25 := ⟨Tryz.f251.name, by decide, Tryz.func251.trans (congrArg some (by kernel_rfl))⟩
  f26 := ⟨Tryz.f252.name, by decide, Tryz.func252.trans (congrArg some (by kernel_rfl))⟩
  f27 := ⟨Tryz.f253.name, by decide, Tryz.func253.trans (congrArg some (by kernel_rfl))⟩
  f28 := Tryz.func254.trans (congrArg some (by kernel_rfl))
  f29 := Tryz.func255.trans (congrArg some (by kernel_rfl))
  f46 := ⟨Tryz.f262.name, by decide, Tryz.func262.trans (congrArg some (by kernel_rfl))⟩
  f47 := Tryz.func263.trans (congrArg some (by kernel_rfl))
  f48 := Tryz.func264.trans (congrArg some (by kernel_rfl))
  f49 := ⟨Tryz.f265.name, by decide, Tryz.func265.trans (congrArg some (by kernel_rfl))⟩
  f50 := ⟨Tryz.f266.name, by decide, Tryz.func266.trans (congrArg some (by kernel_rfl))⟩
  f57 := ⟨Tryz.f279.name, by decide, Tryz.func279.trans (congrArg some (by kernel_rfl))⟩
  t0 := Tryz.underlying0
  a0 := Tryz.isAgg0
  z0 := Tryz.sizeOf0
  v0 := Tryz.zeroValue0
  t3 := Tryz.underlying3
  a3 := Tryz.isAgg3
  z3 := Tryz.sizeOf3
  v3 := Tryz.zeroValue3
  t4 := Tryz.underlying4
  a4 := Tryz.isAgg4
  z4 := Tryz.sizeOf4
  v4 := Tryz.zeroValue4
  t5 := Tryz.underlying5
  a5 := Tryz.isAgg5
  z5 := Tryz.sizeOf5
  v5 := Tryz.zeroValue5
  t9 := Tryz.underlying9
  a9 := Tryz.isAgg9
  z9 := Tryz.sizeOf9
  v9 := Tryz.zeroValue9
  t22 := Tryz.underlying88
  a22 := Tryz.isAgg88
  z22 := Tryz.sizeOf88
  v22 := Tryz.zeroValue88
  t25 := Tryz.underlying201
  a25 := Tryz.isAgg201
  z25 := Tryz.sizeOf201
  v25 := Tryz.zeroValue201
  t39 := Tryz.underlying227
  a39 := Tryz.isAgg227
  z39 := Tryz.sizeOf227
  v39 := Tryz.zeroValue227
  t45 := Tryz.underlying260
  a45 := Tryz.isAgg260
  z45 := Tryz.sizeOf260
  v45 := Tryz.zeroValue260
  t46 := Tryz.underlying261
  a46 := Tryz.isAgg261
  z46 := Tryz.sizeOf261
  v46 := Tryz.zeroValue261
  t50 := Tryz.underlying99
  a50 := Tryz.isAgg99
  z50 := Tryz.sizeOf99
  v50 := Tryz.zeroValue99
  t53 := Tryz.underlying190
  a53 := Tryz.isAgg190
  z53 := Tryz.sizeOf190
  v53 := Tryz.zeroValue190
  t55 := Tryz.underlying184
  a55 := Tryz.isAgg184
  z55 := Tryz.sizeOf184
  v55 := Tryz.zeroValue184
  t66 := Tryz.underlying271
  a66 := Tryz.isAgg271
  z66 := Tryz.sizeOf271
  v66 := Tryz.zeroValue271
  t70 := Tryz.underlying275
  a70 := Tryz.isAgg275
  z70 := Tryz.sizeOf275
  v70 := Tryz.zeroValue275
  t76 := Tryz.underlying282
  a76 := Tryz.isAgg282
  z76 := Tryz.sizeOf282
  v76 := Tryz.zeroValue282
  t77 := Tryz.underlying228
  a77 := Tryz.isAgg228
  z77 := Tryz.sizeOf228
  v77 := Tryz.zeroValue228 }
end Go.Proofs
