/- Parts of a proof, laid together. -/
import Derived.Shelf.SlSortCmp.SmallK
import Derived.Test.YtbbbeldbhlehnaaGreatDoorProg
set_option linter.unusedSimpArgs false
set_option linter.unusedVariables false
section
namespace Go.Proofs
open Go.Shelf
def Tryz.sortUse_ren : Go.Shelf.Ren := ⟨fun | 6 => 98 | 15 => 140 | 14 => 165 | 28 => 198 | 29 => 199 | 20 => 213 | 21 => 214 | 22 => 215 | 23 => 216 | 24 => 217 | 25 => 218 | 26 => 219 | 27 => 220 | 46 => 251 | 47 => 239 | 48 => 240 | 49 => 252 | 50 => 253 | 57 => 271 | n => n, fun | 22 => 27 | 24 => 151 | 25 => 158 | 3 => 3 | 39 => 192 | 0 => 0 | 53 => 236 | 55 => 238 | 4 => 4 | 46 => 230 | 45 => 229 | 50 => 117 | 5 => 5 | 9 => 9 | 66 => 264 | 70 => 268 | 76 => 282 | 77 => 211 | n => n, fun | n => n⟩
theorem Tryz.sortUse : Go.Proofs.SlLaysF0.n6 Tryz.prog Tryz.sortUse_ren := {
 mixed := by kernel_rfl
 f6 := ⟨Tryz.f98.name, by decide, Tryz.func98.trans (congrArg some (by kernel_rfl))⟩
 f14 := ⟨Tryz.f165.name, by decide, Tryz.func165.trans (congrArg some (by kernel_rfl))⟩
 f15 := Tryz.func140.trans (congrArg some (by kernel_rfl))
 f20 := ⟨Tryz.f213.name, by decide, Tryz.func213.trans (congrArg some (by kernel_rfl))⟩
 f21 := ⟨Tryz.f214.name, by decide, Tryz.func214.trans (congrArg some (by kernel_rfl))⟩
 f22 := ⟨Tryz.f215.name, by decide, Tryz.func215.trans (congrArg some (by kernel_rfl))⟩
 f23 := ⟨Tryz.f216.name, by decide, Tryz.func216.trans (congrArg some (by kernel_rfl))⟩
 f24 := ⟨Tryz.f217.name, by decide, Tryz.func217.trans (congrArg some (by kernel_rfl))⟩
 f25 := ⟨Tryz.f218.name, by decide, Tryz.func218.trans (congrArg some (by kernel_rfl))⟩
 f26 := ⟨Tryz.f219.name, by decide, Tryz.func219.trans (congrArg some (by kernel_rfl))⟩
 f27 := ⟨Tryz.f220.name, by decide, Tryz.func220.trans (congrArg some (by kernel_rfl))⟩
 f28 := Tryz.func198.trans (congrArg some (by kernel_rfl))
 f29 := Tryz.func199.trans (congrArg some (by kernel_rfl))
 f46 := ⟨Tryz.f251.name, by decide, Tryz.func251.trans (congrArg some (by kernel_rfl))⟩
 f47 := Tryz.func239.trans (congrArg some (by kernel_rfl))
 f48 := Tryz.func240.trans (congrArg some (by kernel_rfl))
 f49 := ⟨Tryz.f252.name, by decide, Tryz.func252.trans (congrArg some (by kernel_rfl))⟩
 f50 := ⟨Tryz.f253.name, by decide, Tryz.func253.trans (congrArg some (by kernel_rfl))⟩
 f57 := ⟨Tryz.f271.name, by decide, Tryz.func271.trans (congrArg some (by kernel_rfl))⟩
 t0 := Tryz.underlying0
 a0 := Tryz.isAgg0
 z0 := Tryz.sizeOf0
 v0 := Tryz.zeroValue0
 t3 := Tryz.underlying3
 a3 := Tryz.isAgg3
 z3 := Tryz.sizeOf3
 v3 := Tryz.zeroValue3
 t4 := Tryz.underlying4
 a4 := Tryz.isAgg4
 z4 := Tryz.sizeOf4
 v4 := Tryz.zeroValue4
 t5 := Tryz.underlying5
 a5 := Tryz.isAgg5
 z5 := Tryz.sizeOf5
 v5 := Tryz.zeroValue5
 t9 := Tryz.underlying9
 a9 := Tryz.isAgg9
 z9 := Tryz.sizeOf9
 v9 := Tryz.zeroValue9
 t22 := Tryz.underlying27
 a22 := Tryz.isAgg27
 z22 := Tryz.sizeOf27
 v22 := Tryz.zeroValue27
 t25 := Tryz.underlying158
 a25 := Tryz.isAgg158
 z25 := Tryz.sizeOf158
 v25 := Tryz.zeroValue158
 t39 := Tryz.underlying192
 a39 := Tryz.isAgg192
 z39 := Tryz.sizeOf192
 v39 := Tryz.zeroValue192
 t45 := Tryz.underlying229
 a45 := Tryz.isAgg229
 z45 := Tryz.sizeOf229
 v45 := Tryz.zeroValue229
 t46 := Tryz.underlying230
 a46 := Tryz.isAgg230
 z46 := Tryz.sizeOf230
 v46 := Tryz.zeroValue230
 t50 := Tryz.underlying117
 a50 := Tryz.isAgg117
 z50 := Tryz.sizeOf117
 v50 := Tryz.zeroValue117
 t53 := Tryz.underlying236
 a53 := Tryz.isAgg236
 z53 := Tryz.sizeOf236
 v53 := Tryz.zeroValue236
 t55 := Tryz.underlying238
 a55 := Tryz.isAgg238
 z55 := Tryz.sizeOf238
 v55 := Tryz.zeroValue238
 t66 := Tryz.underlying264
 a66 := Tryz.isAgg264
 z66 := Tryz.sizeOf264
 v66 := Tryz.zeroValue264
 t70 := Tryz.underlying268
 a70 := Tryz.isAgg268
 z70 := Tryz.sizeOf268
 v70 := Tryz.zeroValue268
 t76 := Tryz.underlying282
 a76 := Tryz.isAgg282
 z76 := Tryz.sizeOf282
 v76 := Tryz.zeroValue282
 t77 := Tryz.underlying211
 a77 := Tryz.isAgg211
 z77 := Tryz.sizeOf211
 v77 := Tryz.zeroValue211 }
end Go.Proofs
end
