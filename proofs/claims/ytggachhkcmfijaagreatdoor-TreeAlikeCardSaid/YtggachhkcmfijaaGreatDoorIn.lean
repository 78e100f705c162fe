/-
 DERIVED: THE SHELF's CONTRACTS AT THIS DUMP, IN PLAIN WORDS (tools/lay-plain.mjs out of 'YtggachhkcmfijaaGreatDoorShelfX.lean', which tools/lay-shelf.mjs wrote): THE SAME DECLARATIONS UNDER THE SAME NAMES: 'import', 'namespace', 'open', 'def', 'theorem' AND NOTHING ELSE: no command of the shelf's: FOR A HAND-IN. Each laying: the table of numbers ('.._ren') and one theorem, a field a fact of the dump's own or the kernel's comparison; each contract: ONE APPLICATION.
-/
import Derived.Shelf.SlGeneric
import Derived.Shelf.Strings.SlTrimAscii
import Derived.Shelf.LaysM
import Derived.Shelf.Strconv.Clone
import Derived.Shelf.Sort.Plain
import Derived.Shelf.Slices.In.SortNone
import Derived.Ground.Names2Prog
import Derived.Shelf.Slices.CompactI
import Derived.Shelf.Strings.Repeat
import Derived.Shelf.SlIterI.Nil
import Derived.Ground.GgzProg
import Derived.Test.YtggachhkcmfijaaGreatDoorProg
import Derived.Test.YtggachhkcmfijaaGreatDoorOu
import Derived.Laws.BitsAllLaws
namespace Go.Proofs
open Go.Shelf
def Tryz.lays160_ren : Go.Shelf.Ren := ⟨fun | 160 => 293 | 232 => 307 | 231 => 306 | 227 => 308 | 234 => 310 | 233 => 309 | 236 => 312 | 235 => 311 | 228 => 315 | 271 => 318 | 151 => 317 | 197 => 316 | 120 => 321 | 152 => 320 | 260 => 319 | 137 => 322 | 119 => 323 | 224 => 324 | 225 => 325 | 217 => 326 | 266 => 327 | n => n, fun | 9 => 9 | 4 => 4 | 3 => 3 | 5 => 5 | 117 => 355 | 116 => 354 | 0 => 0 | 124 => 358 | 21 => 21 | 105 => 361 | 46 => 180 | 119 => 365 | 139 => 368 | 138 => 367 | n => n, fun | 3 => 1 | 4 => 2 | n => n⟩
theorem Tryz.lays160 : Go.Proofs.Lays.n160 Tryz.prog Tryz.lays160_ren := {
 mixed := by kernel_rfl
 f119 := Tryz.func323.trans (congrArg some (by kernel_rfl))
 f120 := Tryz.func321.trans (congrArg some (by kernel_rfl))
 f137 := Tryz.func322.trans (congrArg some (by kernel_rfl))
 f151 := Tryz.func317.trans (congrArg some (by kernel_rfl))
 f152 := Tryz.func320.trans (congrArg some (by kernel_rfl))
 f160 := Tryz.func293.trans (congrArg some (by kernel_rfl))
 f197 := Tryz.func316.trans (congrArg some (by kernel_rfl))
 f217 := Tryz.func326.trans (congrArg some (by kernel_rfl))
 f224 := Tryz.func324.trans (congrArg some (by kernel_rfl))
 f225 := Tryz.func325.trans (congrArg some (by kernel_rfl))
 f227 := Tryz.func308.trans (congrArg some (by kernel_rfl))
 f228 := Tryz.func315.trans (congrArg some (by kernel_rfl))
 f231 := Tryz.func306.trans (congrArg some (by kernel_rfl))
 f232 := Tryz.func307.trans (congrArg some (by kernel_rfl))
 f233 := Tryz.func309.trans (congrArg some (by kernel_rfl))
 f234 := Tryz.func310.trans (congrArg some (by kernel_rfl))
 f235 := Tryz.func311.trans (congrArg some (by kernel_rfl))
 f236 := Tryz.func312.trans (congrArg some (by kernel_rfl))
 f260 := Tryz.func319.trans (congrArg some (by kernel_rfl))
 f266 := Tryz.func327.trans (congrArg some (by kernel_rfl))
 f271 := Tryz.func318.trans (congrArg some (by kernel_rfl))
 t0 := Tryz.underlying0
 a0 := Tryz.isAgg0
 z0 := Tryz.sizeOf0
 v0 := Tryz.zeroValue0
 t3 := Tryz.underlying3
 a3 := Tryz.isAgg3
 z3 := Tryz.sizeOf3
 v3 := Tryz.zeroValue3
 t4 := Tryz.underlying4
 a4 := Tryz.isAgg4
 z4 := Tryz.sizeOf4
 v4 := Tryz.zeroValue4
 t5 := Tryz.underlying5
 a5 := Tryz.isAgg5
 z5 := Tryz.sizeOf5
 v5 := Tryz.zeroValue5
 t9 := Tryz.underlying9
 a9 := Tryz.isAgg9
 z9 := Tryz.sizeOf9
 v9 := Tryz.zeroValue9
 t21 := Tryz.underlying21
 a21 := Tryz.isAgg21
 z21 := Tryz.sizeOf21
 v21 := Tryz.zeroValue21
 t46 := Tryz.underlying180
 a46 := Tryz.isAgg180
 z46 := Tryz.sizeOf180
 v46 := Tryz.zeroValue180
 t105 := Tryz.underlying361
 a105 := Tryz.isAgg361
 z105 := Tryz.sizeOf361
 v105 := Tryz.zeroValue361
 t116 := Tryz.underlying354
 a116 := Tryz.isAgg354
 z116 := Tryz.sizeOf354
 t117 := Tryz.underlying355
 a117 := Tryz.isAgg355
 z117 := Tryz.sizeOf355
 v117 := Tryz.zeroValue355
 t119 := Tryz.underlying365
 a119 := Tryz.isAgg365
 z119 := Tryz.sizeOf365
 t124 := Tryz.underlying358
 a124 := Tryz.isAgg358
 z124 := Tryz.sizeOf358
 v124 := Tryz.zeroValue358
 t138 := Tryz.underlying367
 a138 := Tryz.isAgg367
 z138 := Tryz.sizeOf367
 v138 := Tryz.zeroValue367
 t139 := Tryz.underlying368
 a139 := Tryz.isAgg368
 z139 := Tryz.sizeOf368
 v139 := Tryz.zeroValue368
 g3 := by kernel_rfl
 g4 := by kernel_rfl }
def Tryz.laysM316_ren : Go.Shelf.Ren := ⟨fun | 316 => 177 | n => n, fun | 9 => 9 | 3 => 3 | 4 => 4 | 37 => 79 | 0 => 0 | 127 => 306 | 5 => 5 | n => n, fun | n => n⟩
theorem Tryz.laysM316 : Go.Proofs.LaysM.n316 Tryz.prog Tryz.laysM316_ren := {
 mixed := by kernel_rfl
 f316 := Tryz.func177.trans (congrArg some (by kernel_rfl))
 t0 := Tryz.underlying0
 a0 := Tryz.isAgg0
 z0 := Tryz.sizeOf0
 v0 := Tryz.zeroValue0
 t3 := Tryz.underlying3
 a3 := Tryz.isAgg3
 z3 := Tryz.sizeOf3
 v3 := Tryz.zeroValue3
 t4 := Tryz.underlying4
 a4 := Tryz.isAgg4
 z4 := Tryz.sizeOf4
 v4 := Tryz.zeroValue4
 t9 := Tryz.underlying9
 a9 := Tryz.isAgg9
 z9 := Tryz.sizeOf9
 v9 := Tryz.zeroValue9
 t37 := Tryz.underlying79
 a37 := Tryz.isAgg79
 z37 := Tryz.sizeOf79
 v37 := Tryz.zeroValue79
 t127 := Tryz.underlying306
 a127 := Tryz.isAgg306
 z127 := Tryz.sizeOf306
 v127 := Tryz.zeroValue306
 t5 := Tryz.underlying5
 a5 := Tryz.isAgg5
 z5 := Tryz.sizeOf5
 v5 := Tryz.zeroValue5
 i0 := by kernel_rfl
 i3 := by kernel_rfl
 i4 := by kernel_rfl
 i5 := by kernel_rfl
 i9 := by kernel_rfl
 i37 := by kernel_rfl
 i127 := by kernel_rfl }
def Tryz.lays189_ren : Go.Shelf.Ren := ⟨fun | 189 => 50 | 125 => 133 | 257 => 132 | 128 => 215 | 129 => 216 | 294 => 206 | 295 => 207 | 296 => 208 | 297 => 209 | 298 => 210 | 299 => 211 | 216 => 212 | 300 => 213 | 301 => 214 | 328 => 270 | 329 => 271 | 330 => 272 | 331 => 273 | 332 => 274 | 215 => 239 | 343 => 299 | n => n, fun | 28 => 29 | 3 => 3 | 46 => 180 | 0 => 0 | 51 => 242 | 53 => 248 | 4 => 4 | 183 => 274 | 182 => 273 | 131 => 114 | 5 => 5 | 9 => 9 | 218 => 320 | 222 => 324 | 228 => 346 | 229 => 347 | n => n, fun | n => n⟩
theorem Tryz.lays189 : Go.Proofs.Lays.n189 Tryz.prog Tryz.lays189_ren := {
 mixed := by kernel_rfl
 f125 := Tryz.func133.trans (congrArg some (by kernel_rfl))
 f128 := Tryz.func215.trans (congrArg some (by kernel_rfl))
 f129 := Tryz.func216.trans (congrArg some (by kernel_rfl))
 f189 := Tryz.func50.trans (congrArg some (by kernel_rfl))
 f215 := Tryz.func239.trans (congrArg some (by kernel_rfl))
 f216 := Tryz.func212.trans (congrArg some (by kernel_rfl))
 f257 := Tryz.func132.trans (congrArg some (by kernel_rfl))
 f294 := Tryz.func206.trans (congrArg some (by kernel_rfl))
 f295 := Tryz.func207.trans (congrArg some (by kernel_rfl))
 f296 := Tryz.func208.trans (congrArg some (by kernel_rfl))
 f297 := Tryz.func209.trans (congrArg some (by kernel_rfl))
 f298 := Tryz.func210.trans (congrArg some (by kernel_rfl))
 f299 := Tryz.func211.trans (congrArg some (by kernel_rfl))
 f300 := Tryz.func213.trans (congrArg some (by kernel_rfl))
 f301 := Tryz.func214.trans (congrArg some (by kernel_rfl))
 f328 := Tryz.func270.trans (congrArg some (by kernel_rfl))
 f329 := Tryz.func271.trans (congrArg some (by kernel_rfl))
 f330 := Tryz.func272.trans (congrArg some (by kernel_rfl))
 f331 := Tryz.func273.trans (congrArg some (by kernel_rfl))
 f332 := Tryz.func274.trans (congrArg some (by kernel_rfl))
 f343 := Tryz.func299.trans (congrArg some (by kernel_rfl))
 t0 := Tryz.underlying0
 a0 := Tryz.isAgg0
 z0 := Tryz.sizeOf0
 v0 := Tryz.zeroValue0
 t3 := Tryz.underlying3
 a3 := Tryz.isAgg3
 z3 := Tryz.sizeOf3
 v3 := Tryz.zeroValue3
 t4 := Tryz.underlying4
 a4 := Tryz.isAgg4
 z4 := Tryz.sizeOf4
 v4 := Tryz.zeroValue4
 t5 := Tryz.underlying5
 a5 := Tryz.isAgg5
 z5 := Tryz.sizeOf5
 v5 := Tryz.zeroValue5
 t9 := Tryz.underlying9
 a9 := Tryz.isAgg9
 z9 := Tryz.sizeOf9
 v9 := Tryz.zeroValue9
 t28 := Tryz.underlying29
 a28 := Tryz.isAgg29
 z28 := Tryz.sizeOf29
 v28 := Tryz.zeroValue29
 t46 := Tryz.underlying180
 a46 := Tryz.isAgg180
 z46 := Tryz.sizeOf180
 v46 := Tryz.zeroValue180
 t51 := Tryz.underlying242
 a51 := Tryz.isAgg242
 z51 := Tryz.sizeOf242
 v51 := Tryz.zeroValue242
 t53 := Tryz.underlying248
 a53 := Tryz.isAgg248
 z53 := Tryz.sizeOf248
 v53 := Tryz.zeroValue248
 t131 := Tryz.underlying114
 a131 := Tryz.isAgg114
 z131 := Tryz.sizeOf114
 v131 := Tryz.zeroValue114
 t182 := Tryz.underlying273
 a182 := Tryz.isAgg273
 z182 := Tryz.sizeOf273
 v182 := Tryz.zeroValue273
 t183 := Tryz.underlying274
 a183 := Tryz.isAgg274
 z183 := Tryz.sizeOf274
 v183 := Tryz.zeroValue274
 t218 := Tryz.underlying320
 a218 := Tryz.isAgg320
 z218 := Tryz.sizeOf320
 v218 := Tryz.zeroValue320
 t222 := Tryz.underlying324
 a222 := Tryz.isAgg324
 z222 := Tryz.sizeOf324
 v222 := Tryz.zeroValue324
 t228 := Tryz.underlying346
 a228 := Tryz.isAgg346
 z228 := Tryz.sizeOf346
 v228 := Tryz.zeroValue346
 t229 := Tryz.underlying347
 a229 := Tryz.isAgg347
 z229 := Tryz.sizeOf347
 v229 := Tryz.zeroValue347 }
def Tryz.laysNm220_ren : Go.Shelf.Ren := ⟨fun | 20 => 229 | n => n, fun | 22 => 29 | 3 => 3 | 4 => 4 | 0 => 0 | n => n, fun | n => n⟩
theorem Tryz.laysNm220 : Go.Proofs.Lays2.n20 Tryz.prog Tryz.laysNm220_ren := {
 mixed := by kernel_rfl
 f20 := Tryz.func229.trans (congrArg some (by kernel_rfl))
 t0 := Tryz.underlying0
 a0 := Tryz.isAgg0
 z0 := Tryz.sizeOf0
 v0 := Tryz.zeroValue0
 t3 := Tryz.underlying3
 a3 := Tryz.isAgg3
 z3 := Tryz.sizeOf3
 v3 := Tryz.zeroValue3
 t4 := Tryz.underlying4
 a4 := Tryz.isAgg4
 z4 := Tryz.sizeOf4
 v4 := Tryz.zeroValue4
 t22 := Tryz.underlying29
 a22 := Tryz.isAgg29
 z22 := Tryz.sizeOf29
 v22 := Tryz.zeroValue29
 i3 := by kernel_rfl }
def Tryz.lays105_ren : Go.Shelf.Ren := ⟨fun | 105 => 116 | 212 => 183 | 99 => 184 | 165 => 185 | 166 => 186 | 170 => 187 | 169 => 188 | 263 => 252 | 264 => 253 | 206 => 254 | 240 => 255 | 241 => 256 | 276 => 291 | 277 => 292 | n => n, fun | 9 => 9 | 3 => 3 | 4 => 4 | 20 => 20 | 0 => 0 | 46 => 180 | 109 => 250 | 5 => 5 | 72 => 255 | 76 => 259 | 51 => 242 | 146 => 307 | 53 => 248 | 148 => 309 | 70 => 253 | 37 => 79 | 75 => 258 | 127 => 306 | 164 => 338 | 80 => 170 | n => n, fun | n => n⟩
theorem Tryz.lays105 : Go.Proofs.Lays.n105 Tryz.prog Tryz.lays105_ren := {
 mixed := by kernel_rfl
 f99 := Tryz.func184.trans (congrArg some (by kernel_rfl))
 f105 := Tryz.func116.trans (congrArg some (by kernel_rfl))
 f165 := Tryz.func185.trans (congrArg some (by kernel_rfl))
 f166 := Tryz.func186.trans (congrArg some (by kernel_rfl))
 f169 := Tryz.func188.trans (congrArg some (by kernel_rfl))
 f170 := Tryz.func187.trans (congrArg some (by kernel_rfl))
 f206 := Tryz.func254.trans (congrArg some (by kernel_rfl))
 f212 := Tryz.func183.trans (congrArg some (by kernel_rfl))
 f240 := Tryz.func255.trans (congrArg some (by kernel_rfl))
 f241 := Tryz.func256.trans (congrArg some (by kernel_rfl))
 f263 := Tryz.func252.trans (congrArg some (by kernel_rfl))
 f264 := Tryz.func253.trans (congrArg some (by kernel_rfl))
 f276 := Tryz.func291.trans (congrArg some (by kernel_rfl))
 f277 := Tryz.func292.trans (congrArg some (by kernel_rfl))
 t0 := Tryz.underlying0
 a0 := Tryz.isAgg0
 z0 := Tryz.sizeOf0
 v0 := Tryz.zeroValue0
 t3 := Tryz.underlying3
 a3 := Tryz.isAgg3
 z3 := Tryz.sizeOf3
 v3 := Tryz.zeroValue3
 t4 := Tryz.underlying4
 a4 := Tryz.isAgg4
 z4 := Tryz.sizeOf4
 v4 := Tryz.zeroValue4
 t5 := Tryz.underlying5
 a5 := Tryz.isAgg5
 z5 := Tryz.sizeOf5
 v5 := Tryz.zeroValue5
 t9 := Tryz.underlying9
 a9 := Tryz.isAgg9
 z9 := Tryz.sizeOf9
 v9 := Tryz.zeroValue9
 t20 := Tryz.underlying20
 a20 := Tryz.isAgg20
 z20 := Tryz.sizeOf20
 v20 := Tryz.zeroValue20
 t37 := Tryz.underlying79
 a37 := Tryz.isAgg79
 z37 := Tryz.sizeOf79
 v37 := Tryz.zeroValue79
 t46 := Tryz.underlying180
 a46 := Tryz.isAgg180
 z46 := Tryz.sizeOf180
 v46 := Tryz.zeroValue180
 t51 := Tryz.underlying242
 a51 := Tryz.isAgg242
 z51 := Tryz.sizeOf242
 v51 := Tryz.zeroValue242
 t53 := Tryz.underlying248
 a53 := Tryz.isAgg248
 z53 := Tryz.sizeOf248
 v53 := Tryz.zeroValue248
 t70 := Tryz.underlying253
 a70 := Tryz.isAgg253
 z70 := Tryz.sizeOf253
 v70 := Tryz.zeroValue253
 t72 := Tryz.underlying255
 a72 := Tryz.isAgg255
 z72 := Tryz.sizeOf255
 v72 := Tryz.zeroValue255
 t75 := Tryz.underlying258
 a75 := Tryz.isAgg258
 z75 := Tryz.sizeOf258
 v75 := Tryz.zeroValue258
 t76 := Tryz.underlying259
 a76 := Tryz.isAgg259
 z76 := Tryz.sizeOf259
 v76 := Tryz.zeroValue259
 t109 := Tryz.underlying250
 a109 := Tryz.isAgg250
 z109 := Tryz.sizeOf250
 v109 := Tryz.zeroValue250
 t127 := Tryz.underlying306
 a127 := Tryz.isAgg306
 z127 := Tryz.sizeOf306
 v127 := Tryz.zeroValue306
 t146 := Tryz.underlying307
 a146 := Tryz.isAgg307
 z146 := Tryz.sizeOf307
 v146 := Tryz.zeroValue307
 t148 := Tryz.underlying309
 a148 := Tryz.isAgg309
 z148 := Tryz.sizeOf309
 v148 := Tryz.zeroValue309
 t164 := Tryz.underlying338
 a164 := Tryz.isAgg338
 z164 := Tryz.sizeOf338
 v164 := Tryz.zeroValue338 }
theorem Tryz.Builder_Extra_105 : Builder.Extra Tryz.prog Tryz.lays105_ren := {
 sizeBuilder := by kernel_rfl
 liesBuilder := by kernel_rfl
 t5 := Tryz.underlying5
 a5 := Tryz.isAgg5
 z5 := Tryz.sizeOf5
 v5 := Tryz.zeroValue5
 infoByte := by kernel_rfl
 cellsByte := by kernel_rfl
 sizeByte := by kernel_rfl
 neB5 := by decide }
def Tryz.keysA_ren : Go.Shelf.Ren := ⟨fun | 7 => 160 | 10 => 224 | n => n, fun | 23 => 90 | 26 => 3 | 3 => 9 | 28 => 223 | 0 => 0 | 27 => 222 | 33 => 157 | 4 => 4 | n => n, fun | n => n⟩
theorem Tryz.keysA : Go.Proofs.SlLaysZI.n7 Tryz.prog Tryz.keysA_ren := {
 mixed := by kernel_rfl
 f7 := ⟨Tryz.f160.name, by decide, Tryz.func160.trans (congrArg some (by kernel_rfl))⟩
 f10 := ⟨Tryz.f224.name, by decide, Tryz.func224.trans (congrArg some (by kernel_rfl))⟩
 t0 := Tryz.underlying0
 a0 := Tryz.isAgg0
 z0 := Tryz.sizeOf0
 v0 := Tryz.zeroValue0
 t4 := Tryz.underlying4
 a4 := Tryz.isAgg4
 z4 := Tryz.sizeOf4
 v4 := Tryz.zeroValue4
 t23 := Tryz.underlying90
 a23 := Tryz.isAgg90
 z23 := Tryz.sizeOf90
 v23 := Tryz.zeroValue90
 t26 := Tryz.underlying3
 a26 := Tryz.isAgg3
 z26 := Tryz.sizeOf3
 v26 := Tryz.zeroValue3
 t27 := Tryz.underlying222
 a27 := Tryz.isAgg222
 z27 := Tryz.sizeOf222
 v27 := Tryz.zeroValue222
 t28 := Tryz.underlying223
 a28 := Tryz.isAgg223
 z28 := Tryz.sizeOf223
 v28 := Tryz.zeroValue223
 t33 := Tryz.underlying157
 a33 := Tryz.isAgg157
 z33 := Tryz.sizeOf157
 v33 := Tryz.zeroValue157 }
def Tryz.sortedA_ren : Go.Shelf.Ren := ⟨fun | 6 => 159 | 8 => 223 | 9 => 50 | 11 => 276 | 13 => 133 | 12 => 132 | 23 => 215 | 24 => 216 | 14 => 206 | 15 => 207 | 16 => 208 | 17 => 209 | 18 => 210 | 19 => 211 | 20 => 212 | 21 => 213 | 22 => 214 | 25 => 270 | 26 => 271 | 27 => 272 | 28 => 273 | 29 => 274 | 30 => 239 | 31 => 299 | n => n, fun | 26 => 3 | 28 => 223 | 24 => 29 | 0 => 0 | 3 => 3 | 37 => 180 | 48 => 242 | 50 => 248 | 4 => 4 | 40 => 274 | 39 => 273 | 45 => 114 | 5 => 5 | 9 => 9 | 51 => 320 | 55 => 324 | 57 => 346 | 58 => 347 | 33 => 157 | n => n, fun | n => n⟩
theorem Tryz.sortedA : Go.Proofs.SlLaysZI.n6 Tryz.prog Tryz.sortedA_ren := {
 mixed := by kernel_rfl
 f6 := ⟨Tryz.f159.name, by decide, Tryz.func159.trans (congrArg some (by kernel_rfl))⟩
 f8 := ⟨Tryz.f223.name, by decide, Tryz.func223.trans (congrArg some (by kernel_rfl))⟩
 f11 := ⟨Tryz.f276.name, by decide, Tryz.func276.trans (congrArg some (by kernel_rfl))⟩
 t0 := Tryz.underlying0
 a0 := Tryz.isAgg0
 z0 := Tryz.sizeOf0
 v0 := Tryz.zeroValue0
 t24 := Tryz.underlying29
 a24 := Tryz.isAgg29
 z24 := Tryz.sizeOf29
 v24 := Tryz.zeroValue29
 t26 := Tryz.underlying3
 a26 := Tryz.isAgg3
 z26 := Tryz.sizeOf3
 v26 := Tryz.zeroValue3
 t28 := Tryz.underlying223
 a28 := Tryz.isAgg223
 z28 := Tryz.sizeOf223
 v28 := Tryz.zeroValue223
 i26 := by kernel_rfl }
end Go.Proofs

/- Calls of Go's library: strings.Trim at an ASCII cutset, stringslite.Clone. -/
set_option linter.unusedVariables false
namespace Go.Proofs.YtggachhkcmfijaaGreatDoor
open Go Go.Vc Go.RowKit Go.Lib
theorem Clone_spec {l : List UInt8} {w : World} (hs : l.length ≤ 281474976710656) {R : ByteArray → World → Prop} (hR : ∀ w', Below w.heap.size w w' → R (tx l) w') : F.stringslite_Clone (tx l) w R := by
 have c : Calls Tryz.prog 177 #[.string (tx l)] w fun e w' => e = .returned (.string (tx l)) ∧ Below w.heap.size w w' := Any.stringslite_Clone Tryz.laysM316 (tx l) w (by rw [tx_size]; exact hs)
 exact Calls.mono c fun e w' h => ⟨tx l, h.1, hR w' h.2⟩
/-- what is left of a text, at its start, without bytes of a set -/
def trimL (set : List UInt8) (l : List UInt8) : List UInt8 := l.dropWhile fun b => set.contains b
def trim (set : List UInt8) (l : List UInt8) : List UInt8 := trimL set (trimL set l.reverse).reverse
theorem Trim_ascii {l : List UInt8} {cs : ByteArray} {w : World} (hs : l.length ≤ 281474976710656) (h1 : cs.size < 4294967281) (h2 : cs.data.toList.all (fun b => decide (b.toNat < 128)) = true) {R : ByteArray → World → Prop}
   (hR : ∀ w', Below w.heap.size w w' → R (tx (trim cs.data.toList l)) w') : F.strings_Trim (tx l) cs w R := by
 have c : Calls Tryz.prog 293 #[.string (tx l), .string cs] w fun e w' => e = .returned (.string ⟨(Lib.trimS (tx l).data.toList cs.data.toList).toArray⟩) ∧ Below w.heap.size w w' :=
   Any.strings_Trim_laid Tryz.lays160 (by kernel_rfl) (tx l) cs w (by rw [tx_size]; omega) h1 (ascii_of_all h2)
 rw [tx_data] at c
 exact Calls.mono c fun e w' h => ⟨tx (trim cs.data.toList l), h.1, hR w' h.2⟩
theorem Trim_zero {l : List UInt8} {w : World} (hs : l.length ≤ 281474976710656) {R : ByteArray → World → Prop} (hR : ∀ w', Below w.heap.size w w' → R (tx (trim [0] l)) w') : F.strings_Trim (tx l) str_x w R :=
 Trim_ascii hs (by decide) (by decide) hR
end Go.Proofs.YtggachhkcmfijaaGreatDoor

/- bits.In: what its methods read. -/
set_option linter.unusedVariables false
namespace Go.Proofs.YtggachhkcmfijaaGreatDoor
open Go Go.Vc Go.RowKit Go.Lib
structure InAt (w : World) (g : Nat) (l : List UInt8) (e : Int) : Prop where
 obj : w.heap[g]? = some (.cells ⟨[.string (tx l), .int .i64 e]⟩ T.y_bits_In (0, 0))
theorem InAt.keep {w w' : World} {g : Nat} {l : List UInt8} {e : Int} (h : InAt w g l e) {S : Nat → Prop} (hf : Fr S w w') (hg : ¬ S g) : InAt w' g l e := ⟨hf.heap h.obj hg⟩
/-- what a raw read gives, what is left, the error -/
def rawIn (n : Int) (l : List UInt8) (e : Int) : List UInt8 × List UInt8 × Int :=
 if e ≠ 0 then ([], l, e) else if n < 0 then ([], l, 1) else if (l.length : Int) < n then ([], l, 5) else (l.take n.toNat, l.drop n.toNat, 0)
theorem fr_below {w w' : World} (h : Below w.heap.size w w') : Fr no w w' := ⟨h.os, h.tape, h.output, h.size, fun k hk _ => h.block k hk⟩
theorem below_fr {w w' : World} (h : Fr no w w') : Below w.heap.size w w' := ⟨h.os, h.tape, h.output, h.size, fun k hk => h.block k hk id⟩
theorem On_spec {l : List UInt8} {w : World} {R : Option Addr → World → Prop} (hR : ∀ w', InAt w' w.heap.size l 0 → Fr no w w' → w.heap.size < w'.heap.size → R (some (blk w.heap.size)) w') : F.bits_On (tx l) w R := by
 apply E.bits_On
 exact hR _ ⟨heap_new w _⟩ (Fr.alloc _ _ _) (by simp)
theorem In_Raw {w : World} {g : Nat} {l : List UInt8} {e : Int} (hI : InAt w g l e) (hl : l.length ≤ 1099511627776) {n : Int} {R : ByteArray → World → Prop}
   (hR : ∀ w', InAt w' g (rawIn n l e).2.1 (rawIn n l e).2.2 → Fr (· = g) w w' → R (tx (rawIn n l e).1) w') : F.bits_In_Raw (some (blk g)) n w R := by
 apply E.bits_In_Raw
 unfold V.bits_In_Raw
 try simp -zeta only [ldC, soC, brC, bkA, slC, stC, alC, drC]
 refine ⟨fun h => by simp at h, fun _ => ⟨blk g, rfl, e, by rw [blk_cell hI.obj]; rfl, fun hne => ?_, fun heq => ?_⟩⟩
 · have hne : e ≠ 0 := by simpa using hne
   have e1 : rawIn n l e = ([], l, e) := by simp [rawIn, hne]
   rw [e1] at hR
   exact hR w hI (Fr.refl _ _)
 have heq : e = 0 := by simpa using heq
 subst heq
 have set : ∀ u : Int, InAt (w.setCell ((blk g).add 1) (.int .i64 u)) g l u := fun u => ⟨by have := blk_set hI.obj 1 (.int .i64 u); simpa using this⟩
 refine ⟨fun hneg => ?_, fun hpos => ?_⟩
 · have hneg : n < 0 := by simpa using hneg
   have e1 : rawIn n l 0 = ([], l, 1) := by simp [rawIn, hneg]
   rw [e1] at hR
   exact ⟨blk g, rfl, blk_wr hI.obj (by simp), hR _ (set 1) (fr_set w g 1 _)⟩
 have hpos : 0 ≤ n := by simpa using hpos
 refine ⟨blk g, rfl, tx l, by rw [blk_cell0 hI.obj]; rfl, fun hbig => ?_, fun hsm => ?_⟩
 · have hbig : (l.length : Int) < n := by simp only [tx_size, gt_iff_lt, decide_eq_true_eq] at hbig; exact hbig
   have e1 : rawIn n l 0 = ([], l, 5) := by simp [rawIn, hbig]; omega
   rw [e1] at hR
   exact ⟨blk g, rfl, blk_wr hI.obj (by simp), hR _ (set 5) (fr_set w g 1 _)⟩
 have hsm : n ≤ (l.length : Int) := by simp only [tx_size, gt_iff_lt, decide_eq_false_iff_not] at hsm; omega
 have e1 : rawIn n l 0 = (l.take n.toNat, l.drop n.toNat, 0) := by
   unfold rawIn
   rw [if_neg (by simp), if_neg (by omega), if_neg (by omega)]
 rw [e1] at hR
 refine ⟨blk g, rfl, tx l, by rw [blk_cell0 hI.obj]; rfl, hpos, by rw [tx_size]; exact hsm, blk g, rfl, tx l, by rw [blk_cell0 hI.obj]; rfl, hpos, by rw [tx_size]; exact hsm, blk g, rfl, blk_wr0 hI.obj (by simp), ?_⟩
 rw [tx_ext, tx_ext, tx_size]
 have e2 : List.take (n.toNat - 0) (List.drop 0 l) = l.take n.toNat := by simp
 have e3 : List.take (l.length - n.toNat) (List.drop n.toNat l) = l.drop n.toNat := List.take_of_length_le (by simp)
 rw [e2, e3]
 apply E.strings_Clone
 unfold V.strings_Clone
 try simp -zeta only [ldC, soC, brC, bkA, slC, stC, alC, drC]
 refine Clone_spec (by simp; omega) fun w' hw' => ?_
 have hI2 : InAt (w.setCell (blk g) (.string (tx (l.drop n.toNat)))) g (l.drop n.toNat) 0 := ⟨by have := blk_set0 hI.obj (.string (tx (l.drop n.toNat))); simpa using this⟩
 exact hR w' (hI2.keep (fr_below hw') id) ((fr_set0 w g _).trans (fr_below hw') (fun _ _ h => h.elim))
/-- the number of some bytes, the lowest first -/
def leVal : List UInt8 → Nat
 | [] => 0
 | b :: r => b.toNat + 256 * leVal r
theorem leVal_app (a b : List UInt8) : leVal (a ++ b) = leVal a + 256 ^ a.length * leVal b := by
 induction a with
 | nil => simp [leVal]
 | cons x r ih => simp only [List.cons_append, leVal, ih, List.length_cons, Nat.pow_succ]; rw [Nat.mul_add, ← Nat.add_assoc, Nat.mul_comm (256 ^ r.length) 256, Nat.mul_assoc]
theorem leVal_lt (a : List UInt8) : leVal a < 256 ^ a.length := by
 induction a with
 | nil => simp [leVal]
 | cons x r ih =>
   simp only [leVal, List.length_cons, Nat.pow_succ]
   have := x.toNat_lt
   omega
def lowIn (size : Nat) (l : List UInt8) (e : Int) : Int × List UInt8 × Int :=
 let v := leVal (rawIn size l e).1
 if v < 9223372036854775808 then (v, (rawIn size l e).2.1, (rawIn size l e).2.2) else (0, (rawIn size l e).2.1, 6)
theorem wr64_id {x : Int} (h1 : 0 ≤ x) (h2 : x < 18446744073709551616) : wr .u64 x = x := by
 have e : wr .u64 x = x % 18446744073709551616 := by simp [wr, IntKind.wrap, IntKind.bits, IntKind.signed]
 rw [e]; omega
theorem or_le {v : Nat} {b m : Nat} (hm : m < 8) (hv : v < 256 ^ m) (hb : b < 256) : bits .or .u64 (v : Int) (shl .u64 (wr .u64 (b : Int)) (8 * (m : Int))) = ((v + 256 ^ m * b : Nat) : Int) := by
 rw [wr64_id (by omega) (by omega)]
 have hp : 256 ^ m = 2 ^ (8 * m) := by rw [Nat.pow_mul]
 have hlt : 256 ^ m * b < 18446744073709551616 := by
   have h1 : 256 ^ m * b ≤ 256 ^ m * 255 := Nat.mul_le_mul_left _ (by omega)
   have h2 : 256 ^ m ≤ 256 ^ 7 := Nat.pow_le_pow_right (by decide) (by omega)
   have h3 : (256 : Nat) ^ 7 = 72057594037927936 := by decide
   omega
 have hs : shl .u64 (b : Int) (8 * (m : Int)) = ((256 ^ m * b : Nat) : Int) := by
   unfold shl
   have e : min (8 * (m : Int)).toNat IntKind.u64.bits = 8 * m := by
     have : (8 * (m : Int)).toNat = 8 * m := by omega
     rw [this]; show min (8 * m) 64 = 8 * m; omega
   rw [e]
   have e2 : (b : Int) * 2 ^ (8 * m) = ((256 ^ m * b : Nat) : Int) := by rw [hp]; push_cast; exact Int.mul_comm _ _
   rw [e2]
   exact wr64_id (by omega) (by omega)
 have hvlt : v < 18446744073709551616 := by
   have h2 : 256 ^ m ≤ 256 ^ 7 := Nat.pow_le_pow_right (by decide) (by omega)
   have h3 : (256 : Nat) ^ 7 = 72057594037927936 := by decide
   omega
 rw [hs, u64_or_nat _ _ hvlt hlt, Nat.or_comm, nat_join (8 * m) _ _ (by rw [hp]; exact Nat.mul_mod_right _ _) (by rw [← hp]; exact hv), Nat.add_comm]
theorem rawIn_len (n : Nat) (l : List UInt8) (e : Int) : (rawIn n l e).1.length ≤ n := by
 unfold rawIn
 split
 · simp
 split
 · simp
 split
 · simp
 · simp; omega
theorem In_low {w : World} {g : Nat} {l : List UInt8} {e : Int} (hI : InAt w g l e) (hl : l.length ≤ 1099511627776) {size : Nat} (hsz : size ≤ 8) {R : Int → World → Prop}
   (hR : ∀ w', InAt w' g (lowIn size l e).2.1 (lowIn size l e).2.2 → Fr (· = g) w w' → R (lowIn size l e).1 w') : F.bits_In_low (some (blk g)) size w R := by
 apply E.bits_In_low
 unfold V.bits_In_low
 try simp -zeta only [ldC, soC, brC, bkA, slC, stC, alC, drC]
 refine In_Raw hI hl fun w1 hI1 hF1 => ?_
 have hlen := rawIn_len size l e
 generalize hraw : (rawIn size l e).1 = bs at hlen
 refine runT_str_bytes und_str und_bytes und_byte fun cap w2 hF2 hsz2 hc => ?_
 have hI2 := hI1.keep hF2 id
 refine ⟨fun v n w' => ∃ m : Nat, n = m ∧ m ≤ bs.length ∧ v = (leVal (bs.take m) : Int) ∧ w' = w2, fun _ n _ => (bs.length - n).toNat, ⟨0, rfl, Nat.zero_le _, by simp [leVal], rfl⟩, ?_⟩
 rintro v n w' ⟨m, rfl, hm, rfl, rfl⟩
 refine ⟨fun hlt => ?_, fun hge => ?_⟩
 · have hlt : m < bs.length := by simpa using hlt
   have e8 : w64 (8 * (m : Int)) = 8 * (m : Int) := w64_id (by omega) (by omega)
   have e1 : w64 ((m : Int) + 1) = ((m + 1 : Nat) : Int) := by rw [w64_id (by omega) (by omega)]; omega
   have htk : leVal (bs.take m) < 256 ^ m := by have := leVal_lt (bs.take m); rwa [List.length_take, Nat.min_eq_left hm] at this
   refine ⟨blk w1.heap.size, rfl, by omega, by show (m : Int) < (bs.length : Int); omega, (bs[m].toNat : Int), ?_, by rw [e8]; omega, ?_, ?_⟩
   · have := hc m bs[m] (by simp [hlt])
     simpa using this
   · refine ⟨m + 1, e1, hlt, ?_, rfl⟩
     rw [e8, or_le (by omega) htk bs[m].toNat_lt, List.take_succ_eq_append_getElem hlt, leVal_app]
     simp [leVal, List.length_take, Nat.min_eq_left hm]
   · show ((bs.length : Int) - w64 ((m : Int) + 1)).toNat < ((bs.length : Int) - (m : Int)).toNat
     rw [e1]; omega
 · have hge : bs.length ≤ m := by simpa using hge
   have : m = bs.length := by omega
   subst this
   rw [List.take_length]
   have hv : leVal bs < 18446744073709551616 := by
     have h1 := leVal_lt bs
     have h2 : 256 ^ bs.length ≤ 256 ^ 8 := Nat.pow_le_pow_right (by decide) (by omega)
     have h3 : (256 : Nat) ^ 8 = 18446744073709551616 := by decide
     omega
   have hw : (leVal bs < 9223372036854775808 ∧ w64 (leVal bs : Int) = leVal bs) ∨ (9223372036854775808 ≤ leVal bs ∧ w64 (leVal bs : Int) < 0) := by
     rcases Nat.lt_or_ge (leVal bs) 9223372036854775808 with h | h
     · exact .inl ⟨h, w64_id (by omega) (by omega)⟩
     · refine .inr ⟨h, ?_⟩
       have e : w64 (leVal bs : Int) = if (leVal bs : Int) % 18446744073709551616 ≥ 9223372036854775808 then (leVal bs : Int) % 18446744073709551616 - 18446744073709551616 else (leVal bs : Int) % 18446744073709551616 := by
         simp [w64, IntKind.wrap, IntKind.bits, IntKind.signed]
       rw [e]
       split <;> omega
   have hFr := hF1.trans hF2 (fun _ _ h => h.elim)
   refine ⟨fun hneg => ?_, fun hpos => ?_⟩
   · have hneg : w64 (leVal bs : Int) < 0 := by simpa using hneg
     rcases hw with ⟨h1, h2⟩ | ⟨h1, h2⟩
     · rw [h2] at hneg; omega
     · have el : lowIn size l e = (0, (rawIn size l e).2.1, 6) := by simp only [lowIn, hraw]; rw [if_neg (by omega)]
       rw [el] at hR
       refine ⟨blk g, rfl, blk_wr hI2.obj (by simp), hR _ ⟨by have := blk_set hI2.obj 1 (.int .i64 6); simpa using this⟩ (hFr.trans (fr_set _ g 1 _) (fun _ _ h => h))⟩
   · have hpos : ¬ w64 (leVal bs : Int) < 0 := by simpa using hpos
     rcases hw with ⟨h1, h2⟩ | ⟨h1, h2⟩
     · have el : lowIn size l e = ((leVal bs : Int), (rawIn size l e).2.1, (rawIn size l e).2.2) := by simp only [lowIn, hraw]; rw [if_pos h1]
       rw [el] at hR
       rw [h2]
       exact hR _ hI2 hFr
     · exact absurd h2 hpos
end Go.Proofs.YtggachhkcmfijaaGreatDoor
