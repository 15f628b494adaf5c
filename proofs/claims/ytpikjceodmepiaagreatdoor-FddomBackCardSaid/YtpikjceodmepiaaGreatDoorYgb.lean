import Derived.Shelf.SlGeneric
import Derived.Shelf.SlSortCmp.WholeK
import Derived.Test.YtpikjceodmepiaaGreatDoorProg
set_option linter.unusedVariables false
set_option linter.unusedSimpArgs false
/-
  Library contracts laid at this program (began as the output of the kit's lay-plain).
-/
set_option linter.unusedVariables false
set_option linter.unusedSimpArgs false
namespace Go.Proofs
open Go.Shelf
def Tryz.sortR_ren : Go.Shelf.Ren := ⟨fun | 6 => 102 | 15 => 126 | 14 => 125 | 28 => 121 | 29 => 147 | 20 => 139 | 21 => 140 | 22 => 141 | 23 => 142 | 24 => 143 | 25 => 144 | 26 => 145 | 27 => 146 | 46 => 150 | 47 => 151 | 48 => 152 | 49 => 153 | 50 => 154 | 57 => 156 | n => n, fun | 22 => 22 | 24 => 69 | 25 => 150 | 3 => 3 | 39 => 119 | 0 => 0 | 53 => 101 | 55 => 23 | 4 => 4 | 46 => 181 | 45 => 180 | 50 => 185 | 5 => 5 | 9 => 9 | 66 => 194 | 70 => 198 | 76 => 201 | 77 => 202 | n => n, fun | n => n⟩
theorem Tryz.sortR : Go.Proofs.SlLaysF0.n6 Tryz.prog Tryz.sortR_ren := {
  mixed := by kernel_rfl
  f6 := ⟨Tryz.f102.name, by decide, Tryz.func102.trans (congrArg some (by kernel_rfl))⟩
  f14 := ⟨Tryz.f125.name, by decide, Tryz.func125.trans (congrArg some (by kernel_rfl))⟩
  f15 := Tryz.func126.trans (congrArg some (by kernel_rfl))
  f20 := ⟨Tryz.f139.name, by decide, Tryz.func139.trans (congrArg some (by kernel_rfl))⟩
  f21 := ⟨Tryz.f140.name, by decide, Tryz.func140.trans (congrArg some (by kernel_rfl))⟩
  f22 := ⟨Tryz.f141.name, by decide, Tryz.func141.trans (congrArg some (by kernel_rfl))⟩
  f23 := ⟨Tryz.f142.name, by decide, Tryz.func142.trans (congrArg some (by kernel_rfl))⟩
  f24 := ⟨Tryz.f143.name, by decide, Tryz.func143.trans (congrArg some (by kernel_rfl))⟩
  f25 := ⟨Tryz.f144.name, by decide, Tryz.func144.trans (congrArg some (by kernel_rfl))⟩
  f26 := ⟨Tryz.f145.name, by decide, Tryz.func145.trans (congrArg some (by kernel_rfl))⟩
  f27 := ⟨Tryz.f146.name, by decide, Tryz.func146.trans (congrArg some (by kernel_rfl))⟩
  f28 := Tryz.func121.trans (congrArg some (by kernel_rfl))
  f29 := Tryz.func147.trans (congrArg some (by kernel_rfl))
  f46 := ⟨Tryz.f150.name, by decide, Tryz.func150.trans (congrArg some (by kernel_rfl))⟩
  f47 := Tryz.func151.trans (congrArg some (by kernel_rfl))
  f48 := Tryz.func152.trans (congrArg some (by kernel_rfl))
  f49 := ⟨Tryz.f153.name, by decide, Tryz.func153.trans (congrArg some (by kernel_rfl))⟩
  f50 := ⟨Tryz.f154.name, by decide, Tryz.func154.trans (congrArg some (by kernel_rfl))⟩
  f57 := ⟨Tryz.f156.name, by decide, Tryz.func156.trans (congrArg some (by kernel_rfl))⟩
  t0 := Tryz.underlying0
  a0 := Tryz.isAgg0
  z0 := Tryz.sizeOf0
  v0 := Tryz.zeroValue0
  t3 := Tryz.underlying3
  a3 := Tryz.isAgg3
  z3 := Tryz.sizeOf3
  v3 := Tryz.zeroValue3
  t4 := Tryz.underlying4
  a4 := Tryz.isAgg4
  z4 := Tryz.sizeOf4
  v4 := Tryz.zeroValue4
  t5 := Tryz.underlying5
  a5 := Tryz.isAgg5
  z5 := Tryz.sizeOf5
  v5 := Tryz.zeroValue5
  t9 := Tryz.underlying9
  a9 := Tryz.isAgg9
  z9 := Tryz.sizeOf9
  v9 := Tryz.zeroValue9
  t22 := Tryz.underlying22
  a22 := Tryz.isAgg22
  z22 := Tryz.sizeOf22
  v22 := Tryz.zeroValue22
  t25 := Tryz.underlying150
  a25 := Tryz.isAgg150
  z25 := Tryz.sizeOf150
  v25 := Tryz.zeroValue150
  t39 := Tryz.underlying119
  a39 := Tryz.isAgg119
  z39 := Tryz.sizeOf119
  v39 := Tryz.zeroValue119
  t45 := Tryz.underlying180
  a45 := Tryz.isAgg180
  z45 := Tryz.sizeOf180
  v45 := Tryz.zeroValue180
  t46 := Tryz.underlying181
  a46 := Tryz.isAgg181
  z46 := Tryz.sizeOf181
  v46 := Tryz.zeroValue181
  t50 := Tryz.underlying185
  a50 := Tryz.isAgg185
  z50 := Tryz.sizeOf185
  v50 := Tryz.zeroValue185
  t53 := Tryz.underlying101
  a53 := Tryz.isAgg101
  z53 := Tryz.sizeOf101
  v53 := Tryz.zeroValue101
  t55 := Tryz.underlying23
  a55 := Tryz.isAgg23
  z55 := Tryz.sizeOf23
  v55 := Tryz.zeroValue23
  t66 := Tryz.underlying194
  a66 := Tryz.isAgg194
  z66 := Tryz.sizeOf194
  v66 := Tryz.zeroValue194
  t70 := Tryz.underlying198
  a70 := Tryz.isAgg198
  z70 := Tryz.sizeOf198
  v70 := Tryz.zeroValue198
  t76 := Tryz.underlying201
  a76 := Tryz.isAgg201
  z76 := Tryz.sizeOf201
  v76 := Tryz.zeroValue201
  t77 := Tryz.underlying202
  a77 := Tryz.isAgg202
  z77 := Tryz.sizeOf202
  v77 := Tryz.zeroValue202 }
end Go.Proofs

