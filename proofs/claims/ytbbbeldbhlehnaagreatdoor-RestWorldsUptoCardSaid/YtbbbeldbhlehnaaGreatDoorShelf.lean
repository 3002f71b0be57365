/-
  DERIVED: THE SHELF's CONTRACTS AT THIS DUMP, IN PLAIN WORDS (tools/lay-plain.mjs out of 'TryzShelf.lean', which tools/lay-shelf.mjs wrote): THE SAME DECLARATIONS UNDER THE SAME NAMES: 'import', 'namespace', 'open', 'def', 'theorem' AND NOTHING ELSE: no command of the shelf's: FOR A HAND-IN. Each laying: the table of numbers ('.._ren') and one theorem, a field a fact of the dump's own or the kernel's comparison; each contract: ONE APPLICATION.
-/
import Derived.Shelf.Strings.Builder1
import Derived.Shelf.Strings.Builder2
import Derived.Shelf.Small.Bits
import Derived.Shelf.Small.Wraps
import Derived.Shelf.Strconv.Atoi
import Derived.Shelf.Strconv.Itoa0
import Derived.Shelf.Strconv.Itoa1
import Derived.Shelf.LaysM
import Derived.Shelf.Strconv.Itoa2
import Derived.Shelf.Strconv.Itoa3
import Derived.Shelf.Strconv.AtoiErrFast
import Derived.Shelf.Strconv.ParseIntEmpty
import Derived.Shelf.Strconv.AtoiFail
import Derived.Shelf.Strconv.Clone
import Derived.Shelf.Strings.Search1
import Derived.Shelf.Strings.Search2
import Derived.Shelf.Strings.Search3
import Derived.Shelf.Strings.Cut
import Derived.Shelf.Strings.Count
import Derived.Shelf.Strings.Shaped
import Derived.Shelf.Strings.LastIndex
import Derived.Shelf.Strings.LastIndexAll
import Derived.Shelf.Strings.Prefix
import Derived.Shelf.Strings.Split
import Derived.Shelf.Strings.Replace
import Derived.Shelf.Strings.SplitShaped
import Derived.Shelf.Unicode.DecodeSlow
import Derived.Test.YtbbbeldbhlehnaaGreatDoorProg
namespace Go.Proofs
open Go.Shelf
def Tryz.lays125_ren : Go.Shelf.Ren := ⟨fun | 125 => 140 | 128 => 198 | 129 => 199 | n => n, fun | 46 => 192 | 3 => 3 | 51 => 236 | 53 => 238 | 4 => 4 | 5 => 5 | 9 => 9 | n => n, fun | n => n⟩
theorem Tryz.lays125 : Go.Proofs.Lays.n125 Tryz.prog Tryz.lays125_ren := {
  mixed := by kernel_rfl
  f125 := Tryz.func140.trans (congrArg some (by kernel_rfl))
  f128 := Tryz.func198.trans (congrArg some (by kernel_rfl))
  f129 := Tryz.func199.trans (congrArg some (by kernel_rfl))
  t3 := Tryz.underlying3
  a3 := Tryz.isAgg3
  z3 := Tryz.sizeOf3
  v3 := Tryz.zeroValue3
  t4 := Tryz.underlying4
  a4 := Tryz.isAgg4
  z4 := Tryz.sizeOf4
  v4 := Tryz.zeroValue4
  t5 := Tryz.underlying5
  a5 := Tryz.isAgg5
  z5 := Tryz.sizeOf5
  v5 := Tryz.zeroValue5
  t9 := Tryz.underlying9
  a9 := Tryz.isAgg9
  z9 := Tryz.sizeOf9
  v9 := Tryz.zeroValue9
  t46 := Tryz.underlying192
  a46 := Tryz.isAgg192
  z46 := Tryz.sizeOf192
  v46 := Tryz.zeroValue192
  t51 := Tryz.underlying236
  a51 := Tryz.isAgg236
  z51 := Tryz.sizeOf236
  v51 := Tryz.zeroValue236
  t53 := Tryz.underlying238
  a53 := Tryz.isAgg238
  z53 := Tryz.sizeOf238
  v53 := Tryz.zeroValue238 }
/-- bits.Len: "Len returns the minimum number of bits required to represent x; the result is 0 for x == 0.": IT RETURNS 'Lib.bitLen x'; the world is as it was. (A uint has 64 bits in the model.) ITS CALLEE bits.Len64 IS MET BY ITS OWN CONTRACT OFF THE SHELF (lay that first). (LAID: no walk: one application.) -/
theorem Tryz.bits_Len (x : Int) (w : World) (h0 : 0 ≤ x) (h1 : x ≤ 18446744073709551615) :
    Calls Tryz.prog 140 #[.int .u64 x] w fun e w' => e = .returned (.int .i64 (Lib.bitLen x.toNat)) ∧ w' = w := Any.bits_Len Tryz.lays125 x w h0 h1
def Tryz.lays171_ren : Go.Shelf.Ren := ⟨fun | 171 => 131 | 243 => 180 | 246 => 230 | 283 => 259 | 284 => 260 | 285 => 261 | 286 => 262 | 129 => 199 | 317 => 272 | 318 => 273 | 319 => 274 | 320 => 275 | 337 => 276 | 338 => 277 | n => n, fun | 3 => 3 | 9 => 9 | 2 => 2 | 4 => 4 | 171 => 274 | 0 => 0 | 53 => 238 | 37 => 88 | 5 => 5 | 173 => 276 | 212 => 294 | 51 => 236 | 20 => 20 | 213 => 295 | 46 => 192 | 232 => 296 | 233 => 297 | n => n, fun | 17 => 5 | 18 => 6 | 19 => 7 | n => n⟩
theorem Tryz.lays171 : Go.Proofs.Lays.n171 Tryz.prog Tryz.lays171_ren := {
  mixed := by kernel_rfl
  f129 := Tryz.func199.trans (congrArg some (by kernel_rfl))
  f171 := Tryz.func131.trans (congrArg some (by kernel_rfl))
  f243 := Tryz.func180.trans (congrArg some (by kernel_rfl))
  f246 := Tryz.func230.trans (congrArg some (by kernel_rfl))
  f283 := Tryz.func259.trans (congrArg some (by kernel_rfl))
  f284 := Tryz.func260.trans (congrArg some (by kernel_rfl))
  f285 := Tryz.func261.trans (congrArg some (by kernel_rfl))
  f286 := Tryz.func262.trans (congrArg some (by kernel_rfl))
  f317 := Tryz.func272.trans (congrArg some (by kernel_rfl))
  f318 := Tryz.func273.trans (congrArg some (by kernel_rfl))
  f319 := Tryz.func274.trans (congrArg some (by kernel_rfl))
  f320 := Tryz.func275.trans (congrArg some (by kernel_rfl))
  f337 := Tryz.func276.trans (congrArg some (by kernel_rfl))
  f338 := Tryz.func277.trans (congrArg some (by kernel_rfl))
  t0 := Tryz.underlying0
  a0 := Tryz.isAgg0
  z0 := Tryz.sizeOf0
  v0 := Tryz.zeroValue0
  t2 := Tryz.underlying2
  a2 := Tryz.isAgg2
  z2 := Tryz.sizeOf2
  v2 := Tryz.zeroValue2
  t3 := Tryz.underlying3
  a3 := Tryz.isAgg3
  z3 := Tryz.sizeOf3
  v3 := Tryz.zeroValue3
  t4 := Tryz.underlying4
  a4 := Tryz.isAgg4
  z4 := Tryz.sizeOf4
  v4 := Tryz.zeroValue4
  t5 := Tryz.underlying5
  a5 := Tryz.isAgg5
  z5 := Tryz.sizeOf5
  v5 := Tryz.zeroValue5
  t9 := Tryz.underlying9
  a9 := Tryz.isAgg9
  z9 := Tryz.sizeOf9
  v9 := Tryz.zeroValue9
  t20 := Tryz.underlying20
  a20 := Tryz.isAgg20
  z20 := Tryz.sizeOf20
  v20 := Tryz.zeroValue20
  t37 := Tryz.underlying88
  a37 := Tryz.isAgg88
  z37 := Tryz.sizeOf88
  v37 := Tryz.zeroValue88
  t46 := Tryz.underlying192
  a46 := Tryz.isAgg192
  z46 := Tryz.sizeOf192
  v46 := Tryz.zeroValue192
  t51 := Tryz.underlying236
  a51 := Tryz.isAgg236
  z51 := Tryz.sizeOf236
  v51 := Tryz.zeroValue236
  t53 := Tryz.underlying238
  a53 := Tryz.isAgg238
  z53 := Tryz.sizeOf238
  v53 := Tryz.zeroValue238
  t171 := Tryz.underlying274
  a171 := Tryz.isAgg274
  z171 := Tryz.sizeOf274
  v171 := Tryz.zeroValue274
  t173 := Tryz.underlying276
  a173 := Tryz.isAgg276
  z173 := Tryz.sizeOf276
  v173 := Tryz.zeroValue276
  t212 := Tryz.underlying294
  a212 := Tryz.isAgg294
  z212 := Tryz.sizeOf294
  v212 := Tryz.zeroValue294
  t213 := Tryz.underlying295
  a213 := Tryz.isAgg295
  z213 := Tryz.sizeOf295
  t232 := Tryz.underlying296
  a232 := Tryz.isAgg296
  z232 := Tryz.sizeOf296
  v232 := Tryz.zeroValue296
  t233 := Tryz.underlying297
  a233 := Tryz.isAgg297
  z233 := Tryz.sizeOf297
  v233 := Tryz.zeroValue297
  g17 := by kernel_rfl
  g18 := by kernel_rfl
  g19 := by kernel_rfl }
open Go.RowKit Go.Sort Go.Lib in
/-- THE ROAD WITHOUT THE TABLE: 0 <= i < 100: NO PREMISE ON THE WORLD, AND THE WORLD IS AS IT WAS: a row that keeps its argument in that range need list no table ('laid = []'). (LAID: no walk: one application.) -/
theorem Tryz.strconv_Itoa_small (i : Nat) (hi : i < 100) (w : World) :
    Calls Tryz.prog 131 #[.int .i64 i] w fun e w' => e = .returned (.string ⟨(Lib.decDigits i).toArray⟩) ∧ w' = w := Any.strconv_Itoa_small Tryz.lays171 i hi w
def Tryz.lays145_ren : Go.Shelf.Ren := ⟨fun | 145 => 56 | 220 => 134 | 219 => 182 | 217 => 231 | 225 => 232 | 224 => 233 | 267 => 234 | 266 => 263 | 314 => 264 | n => n, fun | 9 => 9 | 4 => 4 | 59 => 102 | 3 => 3 | 5 => 5 | 46 => 192 | 146 => 249 | 51 => 236 | n => n, fun | 1 => 0 | n => n⟩
theorem Tryz.lays145 : Go.Proofs.Lays.n145 Tryz.prog Tryz.lays145_ren := {
  mixed := by kernel_rfl
  f145 := Tryz.func56.trans (congrArg some (by kernel_rfl))
  f217 := Tryz.func231.trans (congrArg some (by kernel_rfl))
  f219 := Tryz.func182.trans (congrArg some (by kernel_rfl))
  f220 := Tryz.func134.trans (congrArg some (by kernel_rfl))
  f224 := Tryz.func233.trans (congrArg some (by kernel_rfl))
  f225 := Tryz.func232.trans (congrArg some (by kernel_rfl))
  f266 := Tryz.func263.trans (congrArg some (by kernel_rfl))
  f267 := Tryz.func234.trans (congrArg some (by kernel_rfl))
  f314 := Tryz.func264.trans (congrArg some (by kernel_rfl))
  t3 := Tryz.underlying3
  a3 := Tryz.isAgg3
  z3 := Tryz.sizeOf3
  v3 := Tryz.zeroValue3
  t4 := Tryz.underlying4
  a4 := Tryz.isAgg4
  z4 := Tryz.sizeOf4
  v4 := Tryz.zeroValue4
  t5 := Tryz.underlying5
  a5 := Tryz.isAgg5
  z5 := Tryz.sizeOf5
  v5 := Tryz.zeroValue5
  t9 := Tryz.underlying9
  a9 := Tryz.isAgg9
  z9 := Tryz.sizeOf9
  v9 := Tryz.zeroValue9
  t46 := Tryz.underlying192
  a46 := Tryz.isAgg192
  z46 := Tryz.sizeOf192
  v46 := Tryz.zeroValue192
  t51 := Tryz.underlying236
  a51 := Tryz.isAgg236
  z51 := Tryz.sizeOf236
  v51 := Tryz.zeroValue236
  t59 := Tryz.underlying102
  a59 := Tryz.isAgg102
  z59 := Tryz.sizeOf102
  v59 := Tryz.zeroValue102
  t146 := Tryz.underlying249
  a146 := Tryz.isAgg249
  z146 := Tryz.sizeOf249
  v146 := Tryz.zeroValue249
  g1 := by kernel_rfl }
open Go.RowKit Go.Lib in
/-- strings.Cut: "Cut slices s around the first instance of sep, returning the text before and after sep. The found result reports whether sep appears in s. If sep does not appear in s, cut returns s, "", false.": IT RETURNS 'Lib.cut s sep'; the world is as it was but for the count of draws. (LAID: no walk: one application.) -/
theorem Tryz.strings_Cut (s sep : ByteArray) (m : Int) (w : World) (hs : s.size < 4294967281) (hm : w.cell? ⟨0, 0, none⟩ = some (.int .i64 m)) :
    Calls Tryz.prog 56 #[.string s, .string sep] w fun e w' => e = .returned (.tuple #[.string ⟨(Lib.cut s.data.toList sep.data.toList).1.toArray⟩, .string ⟨(Lib.cut s.data.toList sep.data.toList).2.1.toArray⟩, .bool (Lib.cut s.data.toList sep.data.toList).2.2]) ∧ ∃ n, w' = w.drewN n := Any.strings_Cut Tryz.lays145 s sep m w hs hm
def Tryz.lays148_ren : Go.Shelf.Ren := ⟨fun | 148 => 86 | 222 => 161 | 223 => 162 | 269 => 212 | n => n, fun | 9 => 9 | 3 => 3 | 4 => 4 | 5 => 5 | 146 => 249 | 51 => 236 | 46 => 192 | n => n, fun | n => n⟩
theorem Tryz.lays148 : Go.Proofs.Lays.n148 Tryz.prog Tryz.lays148_ren := {
  mixed := by kernel_rfl
  f148 := Tryz.func86.trans (congrArg some (by kernel_rfl))
  f222 := Tryz.func161.trans (congrArg some (by kernel_rfl))
  f223 := Tryz.func162.trans (congrArg some (by kernel_rfl))
  f269 := Tryz.func212.trans (congrArg some (by kernel_rfl))
  t3 := Tryz.underlying3
  a3 := Tryz.isAgg3
  z3 := Tryz.sizeOf3
  v3 := Tryz.zeroValue3
  t4 := Tryz.underlying4
  a4 := Tryz.isAgg4
  z4 := Tryz.sizeOf4
  v4 := Tryz.zeroValue4
  t5 := Tryz.underlying5
  a5 := Tryz.isAgg5
  z5 := Tryz.sizeOf5
  v5 := Tryz.zeroValue5
  t9 := Tryz.underlying9
  a9 := Tryz.isAgg9
  z9 := Tryz.sizeOf9
  v9 := Tryz.zeroValue9
  t46 := Tryz.underlying192
  a46 := Tryz.isAgg192
  z46 := Tryz.sizeOf192
  v46 := Tryz.zeroValue192
  t51 := Tryz.underlying236
  a51 := Tryz.isAgg236
  z51 := Tryz.sizeOf236
  v51 := Tryz.zeroValue236
  t146 := Tryz.underlying249
  a146 := Tryz.isAgg249
  z146 := Tryz.sizeOf249
  v146 := Tryz.zeroValue249 }
open Go.RowKit Go.Lib in
/-- strings.LastIndex: "LastIndex returns the index of the last instance of substr in s, or -1 if substr is not present in s.": AT A substr OF WHATEVER LENGTH. (LAID: no walk: one application.) -/
theorem Tryz.strings_LastIndex (s sub : ByteArray) (hs : s.size < 4611686018427387904) (w : World) :
    Calls Tryz.prog 86 #[.string s, .string sub] w fun e w' => e = .returned (.int .i64 (Lib.lastIndex s.data.toList sub.data.toList)) ∧ w' = w := Any.strings_LastIndex Tryz.lays148 s sub hs w
def Tryz.lays154_ren : Go.Shelf.Ren := ⟨fun | 154 => 160 | 138 => 206 | 165 => 207 | 143 => 208 | 166 => 209 | 197 => 210 | 169 => 211 | 195 => 246 | 218 => 247 | 240 => 248 | 241 => 249 | 219 => 182 | 260 => 250 | 276 => 269 | 277 => 270 | 217 => 231 | 225 => 232 | 224 => 233 | 267 => 234 | 266 => 263 | 314 => 264 | n => n, fun | 9 => 9 | 3 => 3 | 4 => 4 | 72 => 244 | 0 => 0 | 76 => 106 | 105 => 246 | 21 => 21 | 5 => 5 | 70 => 242 | 20 => 20 | 37 => 88 | 75 => 105 | 127 => 271 | 164 => 284 | 46 => 192 | 119 => 287 | 139 => 290 | 138 => 289 | 146 => 249 | 51 => 236 | 80 => 248 | n => n, fun | 1 => 0 | 3 => 3 | 4 => 4 | n => n⟩
theorem Tryz.lays154 : Go.Proofs.Lays.n154 Tryz.prog Tryz.lays154_ren := {
  mixed := by kernel_rfl
  f138 := Tryz.func206.trans (congrArg some (by kernel_rfl))
  f143 := Tryz.func208.trans (congrArg some (by kernel_rfl))
  f154 := Tryz.func160.trans (congrArg some (by kernel_rfl))
  f165 := Tryz.func207.trans (congrArg some (by kernel_rfl))
  f166 := Tryz.func209.trans (congrArg some (by kernel_rfl))
  f169 := Tryz.func211.trans (congrArg some (by kernel_rfl))
  f195 := Tryz.func246.trans (congrArg some (by kernel_rfl))
  f197 := Tryz.func210.trans (congrArg some (by kernel_rfl))
  f217 := Tryz.func231.trans (congrArg some (by kernel_rfl))
  f218 := Tryz.func247.trans (congrArg some (by kernel_rfl))
  f219 := Tryz.func182.trans (congrArg some (by kernel_rfl))
  f224 := Tryz.func233.trans (congrArg some (by kernel_rfl))
  f225 := Tryz.func232.trans (congrArg some (by kernel_rfl))
  f240 := Tryz.func248.trans (congrArg some (by kernel_rfl))
  f241 := Tryz.func249.trans (congrArg some (by kernel_rfl))
  f260 := Tryz.func250.trans (congrArg some (by kernel_rfl))
  f266 := Tryz.func263.trans (congrArg some (by kernel_rfl))
  f267 := Tryz.func234.trans (congrArg some (by kernel_rfl))
  f276 := Tryz.func269.trans (congrArg some (by kernel_rfl))
  f277 := Tryz.func270.trans (congrArg some (by kernel_rfl))
  f314 := Tryz.func264.trans (congrArg some (by kernel_rfl))
  t0 := Tryz.underlying0
  a0 := Tryz.isAgg0
  z0 := Tryz.sizeOf0
  v0 := Tryz.zeroValue0
  t3 := Tryz.underlying3
  a3 := Tryz.isAgg3
  z3 := Tryz.sizeOf3
  v3 := Tryz.zeroValue3
  t4 := Tryz.underlying4
  a4 := Tryz.isAgg4
  z4 := Tryz.sizeOf4
  v4 := Tryz.zeroValue4
  t5 := Tryz.underlying5
  a5 := Tryz.isAgg5
  z5 := Tryz.sizeOf5
  v5 := Tryz.zeroValue5
  t9 := Tryz.underlying9
  a9 := Tryz.isAgg9
  z9 := Tryz.sizeOf9
  v9 := Tryz.zeroValue9
  t20 := Tryz.underlying20
  a20 := Tryz.isAgg20
  z20 := Tryz.sizeOf20
  v20 := Tryz.zeroValue20
  t21 := Tryz.underlying21
  a21 := Tryz.isAgg21
  z21 := Tryz.sizeOf21
  v21 := Tryz.zeroValue21
  t37 := Tryz.underlying88
  a37 := Tryz.isAgg88
  z37 := Tryz.sizeOf88
  v37 := Tryz.zeroValue88
  t46 := Tryz.underlying192
  a46 := Tryz.isAgg192
  z46 := Tryz.sizeOf192
  v46 := Tryz.zeroValue192
  t51 := Tryz.underlying236
  a51 := Tryz.isAgg236
  z51 := Tryz.sizeOf236
  v51 := Tryz.zeroValue236
  t70 := Tryz.underlying242
  a70 := Tryz.isAgg242
  z70 := Tryz.sizeOf242
  v70 := Tryz.zeroValue242
  t72 := Tryz.underlying244
  a72 := Tryz.isAgg244
  z72 := Tryz.sizeOf244
  v72 := Tryz.zeroValue244
  t75 := Tryz.underlying105
  a75 := Tryz.isAgg105
  z75 := Tryz.sizeOf105
  v75 := Tryz.zeroValue105
  t76 := Tryz.underlying106
  a76 := Tryz.isAgg106
  z76 := Tryz.sizeOf106
  v76 := Tryz.zeroValue106
  t105 := Tryz.underlying246
  a105 := Tryz.isAgg246
  z105 := Tryz.sizeOf246
  v105 := Tryz.zeroValue246
  t119 := Tryz.underlying287
  a119 := Tryz.isAgg287
  z119 := Tryz.sizeOf287
  t127 := Tryz.underlying271
  a127 := Tryz.isAgg271
  z127 := Tryz.sizeOf271
  v127 := Tryz.zeroValue271
  t138 := Tryz.underlying289
  a138 := Tryz.isAgg289
  z138 := Tryz.sizeOf289
  v138 := Tryz.zeroValue289
  t139 := Tryz.underlying290
  a139 := Tryz.isAgg290
  z139 := Tryz.sizeOf290
  v139 := Tryz.zeroValue290
  t146 := Tryz.underlying249
  a146 := Tryz.isAgg249
  z146 := Tryz.sizeOf249
  v146 := Tryz.zeroValue249
  t164 := Tryz.underlying284
  a164 := Tryz.isAgg284
  z164 := Tryz.sizeOf284
  v164 := Tryz.zeroValue284
  g1 := by kernel_rfl
  g3 := by kernel_rfl
  g4 := by kernel_rfl }
theorem Tryz.Builder_Extra_154 : Builder.Extra Tryz.prog Tryz.lays154_ren := {
  sizeBuilder := by kernel_rfl
  liesBuilder := by kernel_rfl
  t5 := Tryz.underlying5
  a5 := Tryz.isAgg5
  z5 := Tryz.sizeOf5
  v5 := Tryz.zeroValue5
  infoByte := by kernel_rfl
  cellsByte := by kernel_rfl
  sizeByte := by kernel_rfl
  neB5 := by decide }
open Go.RowKit Go.Lib in
/-- strings.Replace: "Replace returns a copy of the string s with the first n non-overlapping instances of old replaced by new. .. If n < 0, there is no limit on the number of replacements.": AT AN old THAT IS NOT EMPTY: IT RETURNS 'Lib.replace s old new n'. Below the heap's end the world is as it was. IT ASKS, as strings.Index's contract: 'len(s) < 4294967281', 'hm'; and that what comes out has room: 'len(s) + Count(s, old) * len(new) ≤ 2^47'. (LAID: no walk: one application.) -/
theorem Tryz.strings_Replace (s old new : ByteArray) (n : Int) (m : Int) (w : World) (hs : s.size < 4294967281) (hm : w.cell? ⟨0, 0, none⟩ = some (.int .i64 m)) (h1 : 1 ≤ old.size) (hlen : s.size + Lib.countB s old * new.size ≤ 140737488355328) :
    Calls Tryz.prog 160 #[.string s, .string old, .string new, .int .i64 n] w fun e w' =>
      e = .returned (.string ⟨(Lib.replace s.data.toList old.data.toList new.data.toList n).toArray⟩) ∧ Below w.heap.size w w' := Any.strings_Replace Tryz.lays154 Tryz.Builder_Extra_154 s old new n m w hs hm h1 hlen
def Tryz.lays155_ren : Go.Shelf.Ren := ⟨fun | 155 => 85 | 154 => 160 | 138 => 206 | 165 => 207 | 143 => 208 | 166 => 209 | 197 => 210 | 169 => 211 | 195 => 246 | 218 => 247 | 240 => 248 | 241 => 249 | 219 => 182 | 260 => 250 | 276 => 269 | 277 => 270 | 217 => 231 | 225 => 232 | 224 => 233 | 267 => 234 | 266 => 263 | 314 => 264 | n => n, fun | 9 => 9 | 3 => 3 | 4 => 4 | 72 => 244 | 0 => 0 | 76 => 106 | 105 => 246 | 21 => 21 | 5 => 5 | 70 => 242 | 20 => 20 | 37 => 88 | 75 => 105 | 127 => 271 | 164 => 284 | 46 => 192 | 119 => 287 | 139 => 290 | 138 => 289 | 146 => 249 | 51 => 236 | 80 => 248 | n => n, fun | 1 => 0 | 3 => 3 | 4 => 4 | n => n⟩
theorem Tryz.lays155 : Go.Proofs.Lays.n155 Tryz.prog Tryz.lays155_ren := {
  mixed := by kernel_rfl
  f138 := Tryz.func206.trans (congrArg some (by kernel_rfl))
  f143 := Tryz.func208.trans (congrArg some (by kernel_rfl))
  f154 := Tryz.func160.trans (congrArg some (by kernel_rfl))
  f155 := Tryz.func85.trans (congrArg some (by kernel_rfl))
  f165 := Tryz.func207.trans (congrArg some (by kernel_rfl))
  f166 := Tryz.func209.trans (congrArg some (by kernel_rfl))
  f169 := Tryz.func211.trans (congrArg some (by kernel_rfl))
  f195 := Tryz.func246.trans (congrArg some (by kernel_rfl))
  f197 := Tryz.func210.trans (congrArg some (by kernel_rfl))
  f217 := Tryz.func231.trans (congrArg some (by kernel_rfl))
  f218 := Tryz.func247.trans (congrArg some (by kernel_rfl))
  f219 := Tryz.func182.trans (congrArg some (by kernel_rfl))
  f224 := Tryz.func233.trans (congrArg some (by kernel_rfl))
  f225 := Tryz.func232.trans (congrArg some (by kernel_rfl))
  f240 := Tryz.func248.trans (congrArg some (by kernel_rfl))
  f241 := Tryz.func249.trans (congrArg some (by kernel_rfl))
  f260 := Tryz.func250.trans (congrArg some (by kernel_rfl))
  f266 := Tryz.func263.trans (congrArg some (by kernel_rfl))
  f267 := Tryz.func234.trans (congrArg some (by kernel_rfl))
  f276 := Tryz.func269.trans (congrArg some (by kernel_rfl))
  f277 := Tryz.func270.trans (congrArg some (by kernel_rfl))
  f314 := Tryz.func264.trans (congrArg some (by kernel_rfl))
  t0 := Tryz.underlying0
  a0 := Tryz.isAgg0
  z0 := Tryz.sizeOf0
  v0 := Tryz.zeroValue0
  t3 := Tryz.underlying3
  a3 := Tryz.isAgg3
  z3 := Tryz.sizeOf3
  v3 := Tryz.zeroValue3
  t4 := Tryz.underlying4
  a4 := Tryz.isAgg4
  z4 := Tryz.sizeOf4
  v4 := Tryz.zeroValue4
  t5 := Tryz.underlying5
  a5 := Tryz.isAgg5
  z5 := Tryz.sizeOf5
  v5 := Tryz.zeroValue5
  t9 := Tryz.underlying9
  a9 := Tryz.isAgg9
  z9 := Tryz.sizeOf9
  v9 := Tryz.zeroValue9
  t20 := Tryz.underlying20
  a20 := Tryz.isAgg20
  z20 := Tryz.sizeOf20
  v20 := Tryz.zeroValue20
  t21 := Tryz.underlying21
  a21 := Tryz.isAgg21
  z21 := Tryz.sizeOf21
  v21 := Tryz.zeroValue21
  t37 := Tryz.underlying88
  a37 := Tryz.isAgg88
  z37 := Tryz.sizeOf88
  v37 := Tryz.zeroValue88
  t46 := Tryz.underlying192
  a46 := Tryz.isAgg192
  z46 := Tryz.sizeOf192
  v46 := Tryz.zeroValue192
  t51 := Tryz.underlying236
  a51 := Tryz.isAgg236
  z51 := Tryz.sizeOf236
  v51 := Tryz.zeroValue236
  t70 := Tryz.underlying242
  a70 := Tryz.isAgg242
  z70 := Tryz.sizeOf242
  v70 := Tryz.zeroValue242
  t72 := Tryz.underlying244
  a72 := Tryz.isAgg244
  z72 := Tryz.sizeOf244
  v72 := Tryz.zeroValue244
  t75 := Tryz.underlying105
  a75 := Tryz.isAgg105
  z75 := Tryz.sizeOf105
  v75 := Tryz.zeroValue105
  t76 := Tryz.underlying106
  a76 := Tryz.isAgg106
  z76 := Tryz.sizeOf106
  v76 := Tryz.zeroValue106
  t105 := Tryz.underlying246
  a105 := Tryz.isAgg246
  z105 := Tryz.sizeOf246
  v105 := Tryz.zeroValue246
  t119 := Tryz.underlying287
  a119 := Tryz.isAgg287
  z119 := Tryz.sizeOf287
  t127 := Tryz.underlying271
  a127 := Tryz.isAgg271
  z127 := Tryz.sizeOf271
  v127 := Tryz.zeroValue271
  t138 := Tryz.underlying289
  a138 := Tryz.isAgg289
  z138 := Tryz.sizeOf289
  v138 := Tryz.zeroValue289
  t139 := Tryz.underlying290
  a139 := Tryz.isAgg290
  z139 := Tryz.sizeOf290
  v139 := Tryz.zeroValue290
  t146 := Tryz.underlying249
  a146 := Tryz.isAgg249
  z146 := Tryz.sizeOf249
  v146 := Tryz.zeroValue249
  t164 := Tryz.underlying284
  a164 := Tryz.isAgg284
  z164 := Tryz.sizeOf284
  v164 := Tryz.zeroValue284
  g1 := by kernel_rfl
  g3 := by kernel_rfl
  g4 := by kernel_rfl }
theorem Tryz.Builder_Extra_155 : Builder.Extra Tryz.prog Tryz.lays155_ren := {
  sizeBuilder := by kernel_rfl
  liesBuilder := by kernel_rfl
  t5 := Tryz.underlying5
  a5 := Tryz.isAgg5
  z5 := Tryz.sizeOf5
  v5 := Tryz.zeroValue5
  infoByte := by kernel_rfl
  cellsByte := by kernel_rfl
  sizeByte := by kernel_rfl
  neB5 := by decide }
open Go.RowKit Go.Lib in
/-- strings.ReplaceAll: "ReplaceAll returns a copy of the string s with all non-overlapping instances of old replaced by new.": AT AN old THAT IS NOT EMPTY: 'Lib.replaceAll s old new'. (LAID: no walk: one application.) -/
theorem Tryz.strings_ReplaceAll (s old new : ByteArray) (m : Int) (w : World) (hs : s.size < 4294967281) (hm : w.cell? ⟨0, 0, none⟩ = some (.int .i64 m)) (h1 : 1 ≤ old.size) (hlen : s.size + Lib.countB s old * new.size ≤ 140737488355328) :
    Calls Tryz.prog 85 #[.string s, .string old, .string new] w fun e w' =>
      e = .returned (.string ⟨(Lib.replaceAll s.data.toList old.data.toList new.data.toList).toArray⟩) ∧ Below w.heap.size w w' := Any.strings_ReplaceAll Tryz.lays155 Tryz.Builder_Extra_155 s old new m w hs hm h1 hlen
end Go.Proofs
