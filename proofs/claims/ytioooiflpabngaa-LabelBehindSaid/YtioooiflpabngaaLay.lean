/-
  DERIVED: THE SHELF's CONTRACTS AT THIS DUMP, IN PLAIN WORDS (tools/lay-plain.mjs out of 'TryLay.lean', which tools/lay-shelf.mjs wrote): THE SAME DECLARATIONS UNDER THE SAME NAMES: 'import', 'namespace', 'open', 'def', 'theorem' AND NOTHING ELSE: no command of the shelf's: FOR A HAND-IN. Each laying: the table of numbers ('.._ren') and one theorem, a field a fact of the dump's own or the kernel's comparison; each contract: ONE APPLICATION.
-/
import Derived.Shelf.SlGeneric
import Derived.Shelf.SlSortCmp.NoneTotal
import Derived.Ground.SlsfProg
import Derived.Test.YtioooiflpabngaaProg
namespace Go.Proofs
open Go.Shelf
def Try.sortLab_ren : Go.Shelf.Ren := ⟨fun | 6 => 115 | 15 => 130 | 14 => 129 | 28 => 140 | 29 => 141 | 20 => 132 | 21 => 133 | 22 => 134 | 23 => 135 | 24 => 136 | 25 => 137 | 26 => 138 | 27 => 139 | 46 => 142 | 47 => 143 | 48 => 144 | 49 => 145 | 50 => 146 | 57 => 147 | n => n, fun | 22 => 41 | 24 => 27 | 25 => 49 | 3 => 3 | 39 => 136 | 0 => 0 | 53 => 159 | 55 => 23 | 4 => 4 | 46 => 153 | 45 => 152 | 50 => 90 | 5 => 5 | 9 => 9 | 66 => 161 | 70 => 164 | 76 => 166 | 77 => 167 | n => n, fun | n => n⟩
theorem Try.sortLab : Go.Proofs.SlLaysF0.n6 Try.prog Try.sortLab_ren := {
  mixed := by kernel_rfl
  f6 := ⟨Try.f115.name, by decide, Try.func115.trans (congrArg some (by kernel_rfl))⟩
  f14 := ⟨Try.f129.name, by decide, Try.func129.trans (congrArg some (by kernel_rfl))⟩
  f15 := Try.func130.trans (congrArg some (by kernel_rfl))
  f20 := ⟨Try.f132.name, by decide, Try.func132.trans (congrArg some (by kernel_rfl))⟩
  f21 := ⟨Try.f133.name, by decide, Try.func133.trans (congrArg some (by kernel_rfl))⟩
  f22 := ⟨Try.f134.name, by decide, Try.func134.trans (congrArg some (by kernel_rfl))⟩
  f23 := ⟨Try.f135.name, by decide, Try.func135.trans (congrArg some (by kernel_rfl))⟩
  f24 := ⟨Try.f136.name, by decide, Try.func136.trans (congrArg some (by kernel_rfl))⟩
  f25 := ⟨Try.f137.name, by decide, Try.func137.trans (congrArg some (by kernel_rfl))⟩
  f26 := ⟨Try.f138.name, by decide, Try.func138.trans (congrArg some (by kernel_rfl))⟩
  f27 := ⟨Try.f139.name, by decide, Try.func139.trans (congrArg some (by kernel_rfl))⟩
  f28 := Try.func140.trans (congrArg some (by kernel_rfl))
  f29 := Try.func141.trans (congrArg some (by kernel_rfl))
  f46 := ⟨Try.f142.name, by decide, Try.func142.trans (congrArg some (by kernel_rfl))⟩
  f47 := Try.func143.trans (congrArg some (by kernel_rfl))
  f48 := Try.func144.trans (congrArg some (by kernel_rfl))
  f49 := ⟨Try.f145.name, by decide, Try.func145.trans (congrArg some (by kernel_rfl))⟩
  f50 := ⟨Try.f146.name, by decide, Try.func146.trans (congrArg some (by kernel_rfl))⟩
  f57 := ⟨Try.f147.name, by decide, Try.func147.trans (congrArg some (by kernel_rfl))⟩
  t0 := Try.underlying0
  a0 := Try.isAgg0
  z0 := Try.sizeOf0
  v0 := Try.zeroValue0
  t3 := Try.underlying3
  a3 := Try.isAgg3
  z3 := Try.sizeOf3
  v3 := Try.zeroValue3
  t4 := Try.underlying4
  a4 := Try.isAgg4
  z4 := Try.sizeOf4
  v4 := Try.zeroValue4
  t5 := Try.underlying5
  a5 := Try.isAgg5
  z5 := Try.sizeOf5
  v5 := Try.zeroValue5
  t9 := Try.underlying9
  a9 := Try.isAgg9
  z9 := Try.sizeOf9
  v9 := Try.zeroValue9
  t22 := Try.underlying41
  a22 := Try.isAgg41
  z22 := Try.sizeOf41
  v22 := Try.zeroValue41
  t25 := Try.underlying49
  a25 := Try.isAgg49
  z25 := Try.sizeOf49
  v25 := Try.zeroValue49
  t39 := Try.underlying136
  a39 := Try.isAgg136
  z39 := Try.sizeOf136
  v39 := Try.zeroValue136
  t45 := Try.underlying152
  a45 := Try.isAgg152
  z45 := Try.sizeOf152
  v45 := Try.zeroValue152
  t46 := Try.underlying153
  a46 := Try.isAgg153
  z46 := Try.sizeOf153
  v46 := Try.zeroValue153
  t50 := Try.underlying90
  a50 := Try.isAgg90
  z50 := Try.sizeOf90
  v50 := Try.zeroValue90
  t53 := Try.underlying159
  a53 := Try.isAgg159
  z53 := Try.sizeOf159
  v53 := Try.zeroValue159
  t55 := Try.underlying23
  a55 := Try.isAgg23
  z55 := Try.sizeOf23
  v55 := Try.zeroValue23
  t66 := Try.underlying161
  a66 := Try.isAgg161
  z66 := Try.sizeOf161
  v66 := Try.zeroValue161
  t70 := Try.underlying164
  a70 := Try.isAgg164
  z70 := Try.sizeOf164
  v70 := Try.zeroValue164
  t76 := Try.underlying166
  a76 := Try.isAgg166
  z76 := Try.sizeOf166
  v76 := Try.zeroValue166
  t77 := Try.underlying167
  a77 := Try.isAgg167
  z77 := Try.sizeOf167
  v77 := Try.zeroValue167 }
end Go.Proofs
