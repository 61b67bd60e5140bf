/-
  DERIVED: THE SHELF's CONTRACTS AT THIS DUMP, IN PLAIN WORDS (tools/lay-plain.mjs out of 'TrydSoShelf.lean', which tools/lay-shelf.mjs wrote): THE SAME DECLARATIONS UNDER THE SAME NAMES: 'import', 'namespace', 'open', 'def', 'theorem' AND NOTHING ELSE: no command of the shelf's: FOR A HAND-IN. Each laying: the table of numbers ('.._ren') and one theorem, a field a fact of the dump's own or the kernel's comparison; each contract: ONE APPLICATION.
-/
import Derived.Shelf.SlSortCmp.WholeK
import Derived.Ground.SlsfProg
import Derived.Test.YtmghlakedaigpaaDoorProg
namespace Go.Proofs
open Go.Shelf
def Tryd.sortT_ren : Go.Shelf.Ren := ⟨fun | 6 => 26 | 15 => 35 | 14 => 34 | 28 => 48 | 29 => 49 | 20 => 40 | 21 => 41 | 22 => 42 | 23 => 43 | 24 => 44 | 25 => 45 | 26 => 46 | 27 => 47 | 46 => 51 | 47 => 52 | 48 => 53 | 49 => 54 | 50 => 55 | 57 => 60 | n => n, fun | 22 => 33 | 24 => 38 | 25 => 55 | 3 => 3 | 39 => 43 | 0 => 0 | 53 => 72 | 55 => 74 | 4 => 4 | 46 => 66 | 45 => 65 | 50 => 51 | 5 => 5 | 9 => 9 | 66 => 76 | 70 => 80 | 76 => 87 | 77 => 88 | n => n, fun | n => n⟩
theorem Tryd.sortT : Go.Proofs.SlLaysF0.n6 Tryd.prog Tryd.sortT_ren := {
  mixed := by kernel_rfl
  f6 := ⟨Tryd.f26.name, by decide, Tryd.func26.trans (congrArg some (by kernel_rfl))⟩
  f14 := ⟨Tryd.f34.name, by decide, Tryd.func34.trans (congrArg some (by kernel_rfl))⟩
  f15 := Tryd.func35.trans (congrArg some (by kernel_rfl))
  f20 := ⟨Tryd.f40.name, by decide, Tryd.func40.trans (congrArg some (by kernel_rfl))⟩
  f21 := ⟨Tryd.f41.name, by decide, Tryd.func41.trans (congrArg some (by kernel_rfl))⟩
  f22 := ⟨Tryd.f42.name, by decide, Tryd.func42.trans (congrArg some (by kernel_rfl))⟩
  f23 := ⟨Tryd.f43.name, by decide, Tryd.func43.trans (congrArg some (by kernel_rfl))⟩
  f24 := ⟨Tryd.f44.name, by decide, Tryd.func44.trans (congrArg some (by kernel_rfl))⟩
  f25 := ⟨Tryd.f45.name, by decide, Tryd.func45.trans (congrArg some (by kernel_rfl))⟩
  f26 := ⟨Tryd.f46.name, by decide, Tryd.func46.trans (congrArg some (by kernel_rfl))⟩
  f27 := ⟨Tryd.f47.name, by decide, Tryd.func47.trans (congrArg some (by kernel_rfl))⟩
  f28 := Tryd.func48.trans (congrArg some (by kernel_rfl))
  f29 := Tryd.func49.trans (congrArg some (by kernel_rfl))
  f46 := ⟨Tryd.f51.name, by decide, Tryd.func51.trans (congrArg some (by kernel_rfl))⟩
  f47 := Tryd.func52.trans (congrArg some (by kernel_rfl))
  f48 := Tryd.func53.trans (congrArg some (by kernel_rfl))
  f49 := ⟨Tryd.f54.name, by decide, Tryd.func54.trans (congrArg some (by kernel_rfl))⟩
  f50 := ⟨Tryd.f55.name, by decide, Tryd.func55.trans (congrArg some (by kernel_rfl))⟩
  f57 := ⟨Tryd.f60.name, by decide, Tryd.func60.trans (congrArg some (by kernel_rfl))⟩
  t0 := Tryd.underlying0
  a0 := Tryd.isAgg0
  z0 := Tryd.sizeOf0
  v0 := Tryd.zeroValue0
  t3 := Tryd.underlying3
  a3 := Tryd.isAgg3
  z3 := Tryd.sizeOf3
  v3 := Tryd.zeroValue3
  t4 := Tryd.underlying4
  a4 := Tryd.isAgg4
  z4 := Tryd.sizeOf4
  v4 := Tryd.zeroValue4
  t5 := Tryd.underlying5
  a5 := Tryd.isAgg5
  z5 := Tryd.sizeOf5
  v5 := Tryd.zeroValue5
  t9 := Tryd.underlying9
  a9 := Tryd.isAgg9
  z9 := Tryd.sizeOf9
  v9 := Tryd.zeroValue9
  t22 := Tryd.underlying33
  a22 := Tryd.isAgg33
  z22 := Tryd.sizeOf33
  v22 := Tryd.zeroValue33
  t25 := Tryd.underlying55
  a25 := Tryd.isAgg55
  z25 := Tryd.sizeOf55
  v25 := Tryd.zeroValue55
  t39 := Tryd.underlying43
  a39 := Tryd.isAgg43
  z39 := Tryd.sizeOf43
  v39 := Tryd.zeroValue43
  t45 := Tryd.underlying65
  a45 := Tryd.isAgg65
  z45 := Tryd.sizeOf65
  v45 := Tryd.zeroValue65
  t46 := Tryd.underlying66
  a46 := Tryd.isAgg66
  z46 := Tryd.sizeOf66
  v46 := Tryd.zeroValue66
  t50 := Tryd.underlying51
  a50 := Tryd.isAgg51
  z50 := Tryd.sizeOf51
  v50 := Tryd.zeroValue51
  t53 := Tryd.underlying72
  a53 := Tryd.isAgg72
  z53 := Tryd.sizeOf72
  v53 := Tryd.zeroValue72
  t55 := Tryd.underlying74
  a55 := Tryd.isAgg74
  z55 := Tryd.sizeOf74
  v55 := Tryd.zeroValue74
  t66 := Tryd.underlying76
  a66 := Tryd.isAgg76
  z66 := Tryd.sizeOf76
  v66 := Tryd.zeroValue76
  t70 := Tryd.underlying80
  a70 := Tryd.isAgg80
  z70 := Tryd.sizeOf80
  v70 := Tryd.zeroValue80
  t76 := Tryd.underlying87
  a76 := Tryd.isAgg87
  z76 := Tryd.sizeOf87
  v76 := Tryd.zeroValue87
  t77 := Tryd.underlying88
  a77 := Tryd.isAgg88
  z77 := Tryd.sizeOf88
  v77 := Tryd.zeroValue88 }
end Go.Proofs
