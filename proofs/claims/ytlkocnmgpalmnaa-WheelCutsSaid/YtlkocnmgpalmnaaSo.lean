/-
  DERIVED: THE SHELF's CONTRACTS AT THIS DUMP, IN PLAIN WORDS (tools/lay-plain.mjs out of 'YtlkocnmgpalmnaaSo.lean', which tools/lay-shelf.mjs wrote): THE SAME DECLARATIONS UNDER THE SAME NAMES: 'import', 'namespace', 'open', 'def', 'theorem' AND NOTHING ELSE: no command of the shelf's: FOR A HAND-IN. Each laying: the table of numbers ('.._ren') and one theorem, a field a fact of the dump's own or the kernel's comparison; each contract: ONE APPLICATION.
-/
import Derived.Shelf.SlSortCmp.NoneTotal
import Derived.Shelf.SlGeneric
import Derived.Ground.SlsfProg
import Derived.Test.YtlkocnmgpalmnaaProg
namespace Go.Proofs
open Go.Shelf
def Ytlkocnmgpalmnaa.sortL_ren : Go.Shelf.Ren := ⟨fun | 6 => 27 | 15 => 37 | 14 => 36 | 28 => 48 | 29 => 49 | 20 => 40 | 21 => 41 | 22 => 42 | 23 => 43 | 24 => 44 | 25 => 45 | 26 => 46 | 27 => 47 | 46 => 50 | 47 => 51 | 48 => 52 | 49 => 53 | 50 => 54 | 57 => 55 | n => n, fun | 22 => 28 | 24 => 3 | 25 => 63 | 3 => 3 | 39 => 77 | 0 => 0 | 53 => 87 | 55 => 22 | 4 => 4 | 46 => 81 | 45 => 80 | 50 => 51 | 5 => 5 | 9 => 9 | 66 => 88 | 70 => 91 | 76 => 93 | 77 => 94 | n => n, fun | n => n⟩
theorem Ytlkocnmgpalmnaa.sortL : Go.Proofs.SlLaysF.n6 Try.prog Ytlkocnmgpalmnaa.sortL_ren := {
  mixed := by kernel_rfl
  f6 := ⟨Try.f27.name, by decide, Try.func27.trans (congrArg some (by kernel_rfl))⟩
  f14 := ⟨Try.f36.name, by decide, Try.func36.trans (congrArg some (by kernel_rfl))⟩
  f15 := Try.func37.trans (congrArg some (by kernel_rfl))
  f20 := ⟨Try.f40.name, by decide, Try.func40.trans (congrArg some (by kernel_rfl))⟩
  f21 := ⟨Try.f41.name, by decide, Try.func41.trans (congrArg some (by kernel_rfl))⟩
  f22 := ⟨Try.f42.name, by decide, Try.func42.trans (congrArg some (by kernel_rfl))⟩
  f23 := ⟨Try.f43.name, by decide, Try.func43.trans (congrArg some (by kernel_rfl))⟩
  f24 := ⟨Try.f44.name, by decide, Try.func44.trans (congrArg some (by kernel_rfl))⟩
  f25 := ⟨Try.f45.name, by decide, Try.func45.trans (congrArg some (by kernel_rfl))⟩
  f26 := ⟨Try.f46.name, by decide, Try.func46.trans (congrArg some (by kernel_rfl))⟩
  f27 := ⟨Try.f47.name, by decide, Try.func47.trans (congrArg some (by kernel_rfl))⟩
  f28 := Try.func48.trans (congrArg some (by kernel_rfl))
  f29 := Try.func49.trans (congrArg some (by kernel_rfl))
  f46 := ⟨Try.f50.name, by decide, Try.func50.trans (congrArg some (by kernel_rfl))⟩
  f47 := Try.func51.trans (congrArg some (by kernel_rfl))
  f48 := Try.func52.trans (congrArg some (by kernel_rfl))
  f49 := ⟨Try.f53.name, by decide, Try.func53.trans (congrArg some (by kernel_rfl))⟩
  f50 := ⟨Try.f54.name, by decide, Try.func54.trans (congrArg some (by kernel_rfl))⟩
  f57 := ⟨Try.f55.name, by decide, Try.func55.trans (congrArg some (by kernel_rfl))⟩
  t0 := Try.underlying0
  a0 := Try.isAgg0
  z0 := Try.sizeOf0
  v0 := Try.zeroValue0
  t3 := Try.underlying3
  a3 := Try.isAgg3
  z3 := Try.sizeOf3
  v3 := Try.zeroValue3
  t4 := Try.underlying4
  a4 := Try.isAgg4
  z4 := Try.sizeOf4
  v4 := Try.zeroValue4
  t5 := Try.underlying5
  a5 := Try.isAgg5
  z5 := Try.sizeOf5
  v5 := Try.zeroValue5
  t9 := Try.underlying9
  a9 := Try.isAgg9
  z9 := Try.sizeOf9
  v9 := Try.zeroValue9
  t22 := Try.underlying28
  a22 := Try.isAgg28
  z22 := Try.sizeOf28
  v22 := Try.zeroValue28
  a24 := Try.isAgg3
  z24 := Try.sizeOf3
  t25 := Try.underlying63
  a25 := Try.isAgg63
  z25 := Try.sizeOf63
  v25 := Try.zeroValue63
  t39 := Try.underlying77
  a39 := Try.isAgg77
  z39 := Try.sizeOf77
  v39 := Try.zeroValue77
  t45 := Try.underlying80
  a45 := Try.isAgg80
  z45 := Try.sizeOf80
  v45 := Try.zeroValue80
  t46 := Try.underlying81
  a46 := Try.isAgg81
  z46 := Try.sizeOf81
  v46 := Try.zeroValue81
  t50 := Try.underlying51
  a50 := Try.isAgg51
  z50 := Try.sizeOf51
  v50 := Try.zeroValue51
  t53 := Try.underlying87
  a53 := Try.isAgg87
  z53 := Try.sizeOf87
  v53 := Try.zeroValue87
  t55 := Try.underlying22
  a55 := Try.isAgg22
  z55 := Try.sizeOf22
  v55 := Try.zeroValue22
  t66 := Try.underlying88
  a66 := Try.isAgg88
  z66 := Try.sizeOf88
  v66 := Try.zeroValue88
  t70 := Try.underlying91
  a70 := Try.isAgg91
  z70 := Try.sizeOf91
  v70 := Try.zeroValue91
  t76 := Try.underlying93
  a76 := Try.isAgg93
  z76 := Try.sizeOf93
  v76 := Try.zeroValue93
  t77 := Try.underlying94
  a77 := Try.isAgg94
  z77 := Try.sizeOf94
  v77 := Try.zeroValue94 }
end Go.Proofs
