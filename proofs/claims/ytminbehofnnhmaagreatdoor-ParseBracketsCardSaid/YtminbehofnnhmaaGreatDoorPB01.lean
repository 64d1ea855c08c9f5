/- Texts of the proof that ParseBrackets holds, part 1; no conditions. -/
import Derived.Shelf.Strings.Builder1
import Derived.Shelf.Strings.Builder2
import Derived.Shelf.Strings.OnBuilder
import Derived.Shelf.Strings.Trim
import Derived.Shelf.Small.Utf8
import Derived.Shelf.Small.Strs
import Derived.Shelf.Small.Wraps
import Derived.Shelf.Strings.BuilderF
import Derived.Shelf.Strings.BuilderK
import Derived.Shelf.Strings.Builder2Cap
import Derived.Shelf.Strconv.Atoi
import Derived.Shelf.Strconv.Itoa0
import Derived.Shelf.Strconv.Itoa1
import Derived.Shelf.LaysM
import Derived.Shelf.Strconv.Itoa2
import Derived.Shelf.Strconv.Itoa3
import Derived.Shelf.Strconv.ParseIntEmpty
import Derived.Shelf.Strconv.Clone
import Derived.Shelf.Strconv.SyntaxError
import Derived.Shelf.LaysC
import Derived.Shelf.Strconv.ToError
import Derived.Shelf.Strconv.Lower
import Derived.Shelf.Strconv.ParseUint10
import Derived.Shelf.Strconv.ParseUint10Empty
import Derived.Shelf.Strconv.ParseUint10Any
import Derived.Shelf.Strconv.ParseInt10
import Derived.Shelf.Strconv.RangeError
import Derived.Shelf.Strconv.ToErrorRange
import Derived.Shelf.Strconv.ParseUintEmpty
import Derived.Shelf.Strconv.ParseUint10b64
import Derived.Shelf.Strconv.ParseUint10b32
import Derived.Shelf.Strconv.ParseUint10b16
import Derived.Shelf.Strconv.ParseUint10b8
import Derived.Shelf.Strconv.ParseUint10At
import Derived.Shelf.Strconv.ParseInt10At64
import Derived.Shelf.Strconv.ParseInt10At32
import Derived.Shelf.Strconv.ParseInt10At16
import Derived.Shelf.Strconv.ParseInt10At8
import Derived.Shelf.Strconv.ParseInt10All
import Derived.Shelf.Strconv.ParseIntPublic10
import Derived.Shelf.Strings.Search1
import Derived.Shelf.Strings.Search2
import Derived.Shelf.Strings.Search3
import Derived.Shelf.Strings.Count
import Derived.Shelf.Strings.Shaped
import Derived.Shelf.Strings.Prefix
import Derived.Shelf.Strings.Split
import Derived.Shelf.Strings.Fields
import Derived.Shelf.Strings.SplitShaped
import Derived.Shelf.Unicode.Latin
import Derived.Shelf.Strings.Runes
import Derived.Shelf.Strings.AsciiSet
import Derived.Shelf.Bits.Mul64
import Derived.Shelf.Strings.Repeat
import Derived.Shelf.Unicode.DecodeSlow
import Derived.Shelf.Unicode.Is16White
import Derived.Shelf.Unicode.IsSpaceAny
import Derived.Shelf.Unicode.Is16Any
import Derived.Shelf.Unicode.Is32Any
import Derived.Shelf.Unicode.ExclAny
import Derived.Shelf.Strings.BuilderCap
import Derived.Shelf.Slices.Turned
import Derived.Shelf.Slices.Equal
import Derived.Ground.Names2Prog
import Derived.Shelf.Slices.Clone
import Derived.Shelf.Slices.Empties2
import Derived.Ground.SlgnProg
import Derived.Shelf.SlicesE.Clone
import Derived.Test.YtminbehofnnhmaaGreatDoorProg
namespace Go.Proofs
open Go.Shelf
def Tryz.lays156_ren : Go.Shelf.Ren := ⟨fun | 156 => 58 | 165 => 144 | 166 => 145 | 169 => 86 | 240 => 241 | 241 => 242 | 276 => 282 | 277 => 283 | n => n, fun | 31 => 46 | 9 => 9 | 3 => 3 | 4 => 4 | 0 => 0 | 20 => 20 | 72 => 123 | 76 => 180 | 70 => 120 | 37 => 121 | 75 => 179 | 127 => 207 | 164 => 272 | 5 => 5 | 80 => 131 | n => n, fun | n => n⟩
theorem Tryz.lays156 : Go.Proofs.Lays.n156 Tryz.prog Tryz.lays156_ren := {
 mixed := by kernel_rfl
 f156 := Tryz.func58.trans (congrArg some (by kernel_rfl))
 f165 := Tryz.func144.trans (congrArg some (by kernel_rfl))
 f166 := Tryz.func145.trans (congrArg some (by kernel_rfl))
 f169 := Tryz.func86.trans (congrArg some (by kernel_rfl))
 f240 := Tryz.func241.trans (congrArg some (by kernel_rfl))
 f241 := Tryz.func242.trans (congrArg some (by kernel_rfl))
 f276 := Tryz.func282.trans (congrArg some (by kernel_rfl))
 f277 := Tryz.func283.trans (congrArg some (by kernel_rfl))
 t0 := Tryz.underlying0
 a0 := Tryz.isAgg0
 z0 := Tryz.sizeOf0
 v0 := Tryz.zeroValue0
 t3 := Tryz.underlying3
 a3 := Tryz.isAgg3
 z3 := Tryz.sizeOf3
 v3 := Tryz.zeroValue3
 t4 := Tryz.underlying4
 a4 := Tryz.isAgg4
 z4 := Tryz.sizeOf4
 v4 := Tryz.zeroValue4
 t9 := Tryz.underlying9
 a9 := Tryz.isAgg9
 z9 := Tryz.sizeOf9
 v9 := Tryz.zeroValue9
 t20 := Tryz.underlying20
 a20 := Tryz.isAgg20
 z20 := Tryz.sizeOf20
 v20 := Tryz.zeroValue20
 t31 := Tryz.underlying46
 a31 := Tryz.isAgg46
 z31 := Tryz.sizeOf46
 v31 := Tryz.zeroValue46
 t37 := Tryz.underlying121
 a37 := Tryz.isAgg121
 z37 := Tryz.sizeOf121
 v37 := Tryz.zeroValue121
 t70 := Tryz.underlying120
 a70 := Tryz.isAgg120
 z70 := Tryz.sizeOf120
 v70 := Tryz.zeroValue120
 t72 := Tryz.underlying123
 a72 := Tryz.isAgg123
 z72 := Tryz.sizeOf123
 v72 := Tryz.zeroValue123
 t75 := Tryz.underlying179
 a75 := Tryz.isAgg179
 z75 := Tryz.sizeOf179
 v75 := Tryz.zeroValue179
 t76 := Tryz.underlying180
 a76 := Tryz.isAgg180
 z76 := Tryz.sizeOf180
 v76 := Tryz.zeroValue180
 t127 := Tryz.underlying207
 a127 := Tryz.isAgg207
 z127 := Tryz.sizeOf207
 v127 := Tryz.zeroValue207
 t164 := Tryz.underlying272
 a164 := Tryz.isAgg272
 z164 := Tryz.sizeOf272
 v164 := Tryz.zeroValue272 }
theorem Tryz.Builder_Extra_156 : Builder.Extra Tryz.prog Tryz.lays156_ren := {
 sizeBuilder := by kernel_rfl
 liesBuilder := by kernel_rfl
 t5 := Tryz.underlying5
 a5 := Tryz.isAgg5
 z5 := Tryz.sizeOf5
 v5 := Tryz.zeroValue5
 infoByte := by kernel_rfl
 cellsByte := by kernel_rfl
 sizeByte := by kernel_rfl
 neB5 := by decide }
open Go.RowKit in
theorem Tryz.strings_Join_none (a : Option Addr) (c : Nat) (sep : ByteArray) (w : World) :
 Calls Tryz.prog 58 #[.slice a 0 c, .string sep] w fun e w' => e = .returned (.string ⟨#[]⟩) ∧ w' = w := Any.strings_Join_none Tryz.lays156 Tryz.Builder_Extra_156 a c sep w
open Go.RowKit in
theorem Tryz.strings_Join (bk o c : Nat) (xs : List ByteArray) (sep : ByteArray) (w : World) (hcells : ∀ (j : Nat) x, xs[j]? = some x → w.cell? ⟨bk, o + j, none⟩ = some (.string x)) (hbk : bk < w.heap.size) (hN : xs.length ≤ 140737488355328) (hcap : xs.length ≤ c) (hlen : (Lib.join (xs.map (·.data.toList)) sep.data.toList).length ≤ 140737488355328) :
 Calls Tryz.prog 58 #[.slice (some ⟨bk, o, none⟩) xs.length c, .string sep] w fun e w' => e = .returned (.string ⟨(Lib.join (xs.map (·.data.toList)) sep.data.toList).toArray⟩) ∧ Below w.heap.size w w' := Any.strings_Join Tryz.lays156 Tryz.Builder_Extra_156 bk o c xs sep w hcells hbk hN hcap hlen
def Tryz.lays137_ren : Go.Shelf.Ren := ⟨fun | 137 => 24 | 217 => 75 | 266 => 170 | n => n, fun | 9 => 9 | 5 => 5 | 3 => 3 | n => n, fun | n => n⟩
theorem Tryz.lays137 : Go.Proofs.Lays.n137 Tryz.prog Tryz.lays137_ren := {
 mixed := by kernel_rfl
 f137 := Tryz.func24.trans (congrArg some (by kernel_rfl))
 f217 := Tryz.func75.trans (congrArg some (by kernel_rfl))
 f266 := Tryz.func170.trans (congrArg some (by kernel_rfl))
 t3 := Tryz.underlying3
 a3 := Tryz.isAgg3
 z3 := Tryz.sizeOf3
 v3 := Tryz.zeroValue3
 t5 := Tryz.underlying5
 a5 := Tryz.isAgg5
 z5 := Tryz.sizeOf5
 v5 := Tryz.zeroValue5
 t9 := Tryz.underlying9
 a9 := Tryz.isAgg9
 z9 := Tryz.sizeOf9
 v9 := Tryz.zeroValue9 }
open Go.RowKit in
theorem Tryz.strings_IndexByte (s : ByteArray) (c : Int) (w : World) :
 Calls Tryz.prog 24 #[.string s, .int .u8 c] w fun e w' => e = .returned (.int .i64 (Lib.indexByte s.data.toList c.toNat.toUInt8)) ∧ w' = w := Any.strings_IndexByte Tryz.lays137 s c w
def Tryz.lays214_ren : Go.Shelf.Ren := ⟨fun | 214 => 238 | n => n, fun | 4 => 4 | 9 => 9 | n => n, fun | n => n⟩
def Tryz.lays121_ren : Go.Shelf.Ren := ⟨fun | 121 => 141 | 214 => 238 | n => n, fun | 4 => 4 | 9 => 9 | n => n, fun | n => n⟩
theorem Tryz.lays121 : Go.Proofs.Lays.n121 Tryz.prog Tryz.lays121_ren := {
 mixed := by kernel_rfl
 f121 := Tryz.func141.trans (congrArg some (by kernel_rfl))
 f214 := Tryz.func238.trans (congrArg some (by kernel_rfl))
 t4 := Tryz.underlying4
 a4 := Tryz.isAgg4
 z4 := Tryz.sizeOf4
 v4 := Tryz.zeroValue4
 t9 := Tryz.underlying9
 a9 := Tryz.isAgg9
 z9 := Tryz.sizeOf9
 v9 := Tryz.zeroValue9 }
open Go.RowKit in
theorem Tryz.strconv_FormatBool (b : Bool) (w : World) :
 Calls Tryz.prog 141 #[.bool b] w fun e w' => e = .returned (.string ⟨(Lib.formatBool b).toArray⟩) ∧ w' = w := Any.strconv_FormatBool Tryz.lays121 b w
def Tryz.lays172_ren : Go.Shelf.Ren := ⟨fun | 172 => 247 | 244 => 284 | 245 => 285 | 247 => 306 | 279 => 307 | 280 => 308 | 281 => 309 | 282 => 310 | 287 => 323 | 316 => 324 | 171 => 142 | 205 => 325 | 321 => 329 | 322 => 330 | 243 => 239 | 246 => 279 | 283 => 301 | 284 => 302 | 285 => 303 | 286 => 304 | 129 => 317 | 317 => 316 | 318 => 318 | 319 => 319 | 320 => 320 | 337 => 327 | 338 => 328 | n => n, fun | 9 => 9 | 3 => 3 | 75 => 179 | 76 => 180 | 4 => 4 | 5 => 5 | 167 => 298 | 37 => 121 | 0 => 0 | 85 => 299 | 2 => 2 | 168 => 301 | 53 => 281 | 175 => 319 | 46 => 248 | 210 => 323 | 127 => 207 | 145 => 334 | 143 => 332 | 21 => 21 | 171 => 288 | 173 => 291 | 212 => 305 | 51 => 277 | 20 => 20 | 213 => 306 | 232 => 335 | 233 => 336 | 80 => 131 | n => n, fun | 15 => 4 | 16 => 5 | 17 => 3 | 18 => 8 | 19 => 9 | n => n⟩
theorem Tryz.lays172 : Go.Proofs.Lays.n172 Tryz.prog Tryz.lays172_ren := {
 mixed := by kernel_rfl
 f129 := Tryz.func317.trans (congrArg some (by kernel_rfl))
 f171 := Tryz.func142.trans (congrArg some (by kernel_rfl))
 f172 := Tryz.func247.trans (congrArg some (by kernel_rfl))
 f205 := Tryz.func325.trans (congrArg some (by kernel_rfl))
 f243 := Tryz.func239.trans (congrArg some (by kernel_rfl))
 f244 := Tryz.func284.trans (congrArg some (by kernel_rfl))
 f245 := Tryz.func285.trans (congrArg some (by kernel_rfl))
 f246 := Tryz.func279.trans (congrArg some (by kernel_rfl))
 f247 := Tryz.func306.trans (congrArg some (by kernel_rfl))
 f279 := Tryz.func307.trans (congrArg some (by kernel_rfl))
 f280 := Tryz.func308.trans (congrArg some (by kernel_rfl))
 f281 := Tryz.func309.trans (congrArg some (by kernel_rfl))
 f282 := Tryz.func310.trans (congrArg some (by kernel_rfl))
 f283 := Tryz.func301.trans (congrArg some (by kernel_rfl))
 f284 := Tryz.func302.trans (congrArg some (by kernel_rfl))
 f285 := Tryz.func303.trans (congrArg some (by kernel_rfl))
 f286 := Tryz.func304.trans (congrArg some (by kernel_rfl))
 f287 := Tryz.func323.trans (congrArg some (by kernel_rfl))
 f316 := Tryz.func324.trans (congrArg some (by kernel_rfl))
 f317 := Tryz.func316.trans (congrArg some (by kernel_rfl))
 f318 := Tryz.func318.trans (congrArg some (by kernel_rfl))
 f319 := Tryz.func319.trans (congrArg some (by kernel_rfl))
 f320 := Tryz.func320.trans (congrArg some (by kernel_rfl))
 f321 := Tryz.func329.trans (congrArg some (by kernel_rfl))
 f322 := Tryz.func330.trans (congrArg some (by kernel_rfl))
 f337 := Tryz.func327.trans (congrArg some (by kernel_rfl))
 f338 := Tryz.func328.trans (congrArg some (by kernel_rfl))
 t0 := Tryz.underlying0
 a0 := Tryz.isAgg0
 z0 := Tryz.sizeOf0
 v0 := Tryz.zeroValue0
 t2 := Tryz.underlying2
 a2 := Tryz.isAgg2
 z2 := Tryz.sizeOf2
 v2 := Tryz.zeroValue2
 t3 := Tryz.underlying3
 a3 := Tryz.isAgg3
 z3 := Tryz.sizeOf3
 v3 := Tryz.zeroValue3
 t4 := Tryz.underlying4
 a4 := Tryz.isAgg4
 z4 := Tryz.sizeOf4
 v4 := Tryz.zeroValue4
 t5 := Tryz.underlying5
 a5 := Tryz.isAgg5
 z5 := Tryz.sizeOf5
 v5 := Tryz.zeroValue5
 t9 := Tryz.underlying9
 a9 := Tryz.isAgg9
 z9 := Tryz.sizeOf9
 v9 := Tryz.zeroValue9
 t20 := Tryz.underlying20
 a20 := Tryz.isAgg20
 z20 := Tryz.sizeOf20
 v20 := Tryz.zeroValue20
 t21 := Tryz.underlying21
 a21 := Tryz.isAgg21
 z21 := Tryz.sizeOf21
 v21 := Tryz.zeroValue21
 t37 := Tryz.underlying121
 a37 := Tryz.isAgg121
 z37 := Tryz.sizeOf121
 v37 := Tryz.zeroValue121
 t46 := Tryz.underlying248
 a46 := Tryz.isAgg248
 z46 := Tryz.sizeOf248
 v46 := Tryz.zeroValue248
 t51 := Tryz.underlying277
 a51 := Tryz.isAgg277
 z51 := Tryz.sizeOf277
 v51 := Tryz.zeroValue277
 t53 := Tryz.underlying281
 a53 := Tryz.isAgg281
 z53 := Tryz.sizeOf281
 v53 := Tryz.zeroValue281
 t75 := Tryz.underlying179
 a75 := Tryz.isAgg179
 z75 := Tryz.sizeOf179
 v75 := Tryz.zeroValue179
 t76 := Tryz.underlying180
 a76 := Tryz.isAgg180
 z76 := Tryz.sizeOf180
 v76 := Tryz.zeroValue180
 t85 := Tryz.underlying299
 a85 := Tryz.isAgg299
 z85 := Tryz.sizeOf299
 v85 := Tryz.zeroValue299
 t127 := Tryz.underlying207
 a127 := Tryz.isAgg207
 z127 := Tryz.sizeOf207
 v127 := Tryz.zeroValue207
 t143 := Tryz.underlying332
 a143 := Tryz.isAgg332
 z143 := Tryz.sizeOf332
 v143 := Tryz.zeroValue332
 t145 := Tryz.underlying334
 a145 := Tryz.isAgg334
 z145 := Tryz.sizeOf334
 v145 := Tryz.zeroValue334
 t167 := Tryz.underlying298
 a167 := Tryz.isAgg298
 z167 := Tryz.sizeOf298
 v167 := Tryz.zeroValue298
 t168 := Tryz.underlying301
 a168 := Tryz.isAgg301
 z168 := Tryz.sizeOf301
 v168 := Tryz.zeroValue301
 t171 := Tryz.underlying288
 a171 := Tryz.isAgg288
 z171 := Tryz.sizeOf288
 v171 := Tryz.zeroValue288
 t173 := Tryz.underlying291
 a173 := Tryz.isAgg291
 z173 := Tryz.sizeOf291
 v173 := Tryz.zeroValue291
 t175 := Tryz.underlying319
 a175 := Tryz.isAgg319
 z175 := Tryz.sizeOf319
 v175 := Tryz.zeroValue319
 t210 := Tryz.underlying323
 a210 := Tryz.isAgg323
 z210 := Tryz.sizeOf323
 v210 := Tryz.zeroValue323
 t212 := Tryz.underlying305
 a212 := Tryz.isAgg305
 z212 := Tryz.sizeOf305
 v212 := Tryz.zeroValue305
 t213 := Tryz.underlying306
 a213 := Tryz.isAgg306
 z213 := Tryz.sizeOf306
 t232 := Tryz.underlying335
 a232 := Tryz.isAgg335
 z232 := Tryz.sizeOf335
 v232 := Tryz.zeroValue335
 t233 := Tryz.underlying336
 a233 := Tryz.isAgg336
 z233 := Tryz.sizeOf336
 v233 := Tryz.zeroValue336
 g15 := by kernel_rfl
 g16 := by kernel_rfl
 g17 := by kernel_rfl
 g18 := by kernel_rfl
 g19 := by kernel_rfl }
open Go.RowKit in
theorem Tryz.strconv_Atoi (s : ByteArray) (n : Int) (hl : s.size ≤ 18) (h : Lib.atoi s.data.toList = some n) (w : World) :
 Calls Tryz.prog 247 #[.string s] w fun e w' => e = .returned (.tuple #[.int .i64 n, .nilIface]) ∧ ∃ t, w' = Lib.bytesWorld w 5 t := Any.strconv_Atoi Tryz.lays172 s n hl h w
def Tryz.laysM246_ren : Go.Shelf.Ren := ⟨fun | 246 => 279 | 283 => 301 | 284 => 302 | 285 => 303 | 286 => 304 | 129 => 317 | 317 => 316 | 318 => 318 | 319 => 319 | 320 => 320 | 337 => 327 | 338 => 328 | n => n, fun | 2 => 2 | 3 => 3 | 9 => 9 | 4 => 4 | 171 => 288 | 0 => 0 | 53 => 281 | 37 => 121 | 5 => 5 | 173 => 291 | 212 => 305 | 51 => 277 | 20 => 20 | 213 => 306 | 46 => 248 | 232 => 335 | 233 => 336 | n => n, fun | 17 => 3 | 18 => 8 | 19 => 9 | n => n⟩
def Tryz.laysM243_ren : Go.Shelf.Ren := ⟨fun | 243 => 239 | 246 => 279 | 283 => 301 | 284 => 302 | 285 => 303 | 286 => 304 | 129 => 317 | 317 => 316 | 318 => 318 | 319 => 319 | 320 => 320 | 337 => 327 | 338 => 328 | n => n, fun | 3 => 3 | 9 => 9 | 2 => 2 | 4 => 4 | 171 => 288 | 0 => 0 | 53 => 281 | 37 => 121 | 5 => 5 | 173 => 291 | 212 => 305 | 51 => 277 | 20 => 20 | 213 => 306 | 46 => 248 | 232 => 335 | 233 => 336 | n => n, fun | 17 => 3 | 18 => 8 | 19 => 9 | n => n⟩
def Tryz.laysM171_ren : Go.Shelf.Ren := ⟨fun | 171 => 142 | 243 => 239 | 246 => 279 | 283 => 301 | 284 => 302 | 285 => 303 | 286 => 304 | 129 => 317 | 317 => 316 | 318 => 318 | 319 => 319 | 320 => 320 | 337 => 327 | 338 => 328 | n => n, fun | 3 => 3 | 9 => 9 | 2 => 2 | 4 => 4 | 171 => 288 | 0 => 0 | 53 => 281 | 37 => 121 | 5 => 5 | 173 => 291 | 212 => 305 | 51 => 277 | 20 => 20 | 213 => 306 | 46 => 248 | 232 => 335 | 233 => 336 | n => n, fun | 17 => 3 | 18 => 8 | 19 => 9 | n => n⟩
theorem Tryz.laysM171 : Go.Proofs.LaysM.n171 Tryz.prog Tryz.laysM171_ren := {
 mixed := by kernel_rfl
 f129 := Tryz.func317.trans (congrArg some (by kernel_rfl))
 f171 := Tryz.func142.trans (congrArg some (by kernel_rfl))
 f243 := Tryz.func239.trans (congrArg some (by kernel_rfl))
 f246 := Tryz.func279.trans (congrArg some (by kernel_rfl))
 f283 := Tryz.func301.trans (congrArg some (by kernel_rfl))
 f284 := Tryz.func302.trans (congrArg some (by kernel_rfl))
 f285 := Tryz.func303.trans (congrArg some (by kernel_rfl))
 f286 := Tryz.func304.trans (congrArg some (by kernel_rfl))
 f317 := Tryz.func316.trans (congrArg some (by kernel_rfl))
 f318 := Tryz.func318.trans (congrArg some (by kernel_rfl))
 f319 := Tryz.func319.trans (congrArg some (by kernel_rfl))
 f320 := Tryz.func320.trans (congrArg some (by kernel_rfl))
 f337 := Tryz.func327.trans (congrArg some (by kernel_rfl))
 f338 := Tryz.func328.trans (congrArg some (by kernel_rfl))
 t0 := Tryz.underlying0
 a0 := Tryz.isAgg0
 z0 := Tryz.sizeOf0
 v0 := Tryz.zeroValue0
 t2 := Tryz.underlying2
 a2 := Tryz.isAgg2
 z2 := Tryz.sizeOf2
 v2 := Tryz.zeroValue2
 t3 := Tryz.underlying3
 a3 := Tryz.isAgg3
 z3 := Tryz.sizeOf3
 v3 := Tryz.zeroValue3
 t4 := Tryz.underlying4
 a4 := Tryz.isAgg4
 z4 := Tryz.sizeOf4
 v4 := Tryz.zeroValue4
 t5 := Tryz.underlying5
 a5 := Tryz.isAgg5
 z5 := Tryz.sizeOf5
 v5 := Tryz.zeroValue5
 t9 := Tryz.underlying9
 a9 := Tryz.isAgg9
 z9 := Tryz.sizeOf9
 v9 := Tryz.zeroValue9
 t20 := Tryz.underlying20
 a20 := Tryz.isAgg20
 z20 := Tryz.sizeOf20
 v20 := Tryz.zeroValue20
 t37 := Tryz.underlying121
 a37 := Tryz.isAgg121
 z37 := Tryz.sizeOf121
 v37 := Tryz.zeroValue121
 t46 := Tryz.underlying248
 a46 := Tryz.isAgg248
 z46 := Tryz.sizeOf248
 v46 := Tryz.zeroValue248
 t51 := Tryz.underlying277
 a51 := Tryz.isAgg277
 z51 := Tryz.sizeOf277
 v51 := Tryz.zeroValue277
 t53 := Tryz.underlying281
 a53 := Tryz.isAgg281
 z53 := Tryz.sizeOf281
 v53 := Tryz.zeroValue281
 t171 := Tryz.underlying288
 a171 := Tryz.isAgg288
 z171 := Tryz.sizeOf288
 v171 := Tryz.zeroValue288
 t173 := Tryz.underlying291
 a173 := Tryz.isAgg291
 z173 := Tryz.sizeOf291
 v173 := Tryz.zeroValue291
 t212 := Tryz.underlying305
 a212 := Tryz.isAgg305
 z212 := Tryz.sizeOf305
 v212 := Tryz.zeroValue305
 t213 := Tryz.underlying306
 a213 := Tryz.isAgg306
 z213 := Tryz.sizeOf306
 t232 := Tryz.underlying335
 a232 := Tryz.isAgg335
 z232 := Tryz.sizeOf335
 v232 := Tryz.zeroValue335
 t233 := Tryz.underlying336
 a233 := Tryz.isAgg336
 z233 := Tryz.sizeOf336
 v233 := Tryz.zeroValue336
 g17 := by kernel_rfl
 g18 := by kernel_rfl
 g19 := by kernel_rfl
 i0 := by kernel_rfl
 i2 := by kernel_rfl
 i3 := by kernel_rfl
 i4 := by kernel_rfl
 i5 := by kernel_rfl
 i9 := by kernel_rfl
 i20 := by kernel_rfl
 i37 := by kernel_rfl
 i46 := by kernel_rfl
 i51 := by kernel_rfl
 i53 := by kernel_rfl
 i171 := by kernel_rfl
 i173 := by kernel_rfl
 i212 := by kernel_rfl
 i232 := by kernel_rfl
 i233 := by kernel_rfl
 m17 := by kernel_rfl
 m18 := by kernel_rfl
 m19 := by kernel_rfl }
open Go.RowKit Go.Sort Go.Lib in
theorem Tryz.strconv_Itoa (n : Int) (h0 : -9223372036854775808 ≤ n) (h1 : n ≤ 9223372036854775807) (w : World) (htab : Lib.TabIs Tryz.prog w "internal/strconv.uint64pow10" .u64 Lib.pow10Tab) :
 Calls Tryz.prog 142 #[.int .i64 n] w fun e w' => e = .returned (.string ⟨(Lib.itoa n).toArray⟩) ∧ ∃ k os, w' = grow (w.drewN k) os := Any.strconv_Itoa Tryz.laysM171 n h0 h1 w htab
def Tryz.lays219_ren : Go.Shelf.Ren := ⟨fun | 219 => 169 | 217 => 75 | 225 => 249 | 224 => 250 | 267 => 251 | 266 => 170 | 314 => 288 | n => n, fun | 9 => 9 | 3 => 3 | 4 => 4 | 5 => 5 | 46 => 248 | 146 => 278 | 51 => 277 | n => n, fun | 1 => 0 | n => n⟩
def Tryz.lays138_ren : Go.Shelf.Ren := ⟨fun | 138 => 22 | 195 => 72 | 218 => 73 | 143 => 74 | 219 => 169 | 217 => 75 | 225 => 249 | 224 => 250 | 267 => 251 | 266 => 170 | 314 => 288 | n => n, fun | 9 => 9 | 3 => 3 | 4 => 4 | 5 => 5 | 0 => 0 | 46 => 248 | 146 => 278 | 51 => 277 | n => n, fun | 1 => 0 | n => n⟩
theorem Tryz.lays138 : Go.Proofs.Lays.n138 Tryz.prog Tryz.lays138_ren := {
 mixed := by kernel_rfl
 f138 := Tryz.func22.trans (congrArg some (by kernel_rfl))
 f143 := Tryz.func74.trans (congrArg some (by kernel_rfl))
 f195 := Tryz.func72.trans (congrArg some (by kernel_rfl))
 f217 := Tryz.func75.trans (congrArg some (by kernel_rfl))
 f218 := Tryz.func73.trans (congrArg some (by kernel_rfl))
 f219 := Tryz.func169.trans (congrArg some (by kernel_rfl))
 f224 := Tryz.func250.trans (congrArg some (by kernel_rfl))
 f225 := Tryz.func249.trans (congrArg some (by kernel_rfl))
 f266 := Tryz.func170.trans (congrArg some (by kernel_rfl))
 f267 := Tryz.func251.trans (congrArg some (by kernel_rfl))
 f314 := Tryz.func288.trans (congrArg some (by kernel_rfl))
 t0 := Tryz.underlying0
 a0 := Tryz.isAgg0
 z0 := Tryz.sizeOf0
 v0 := Tryz.zeroValue0
 t3 := Tryz.underlying3
 a3 := Tryz.isAgg3
 z3 := Tryz.sizeOf3
 v3 := Tryz.zeroValue3
 t4 := Tryz.underlying4
 a4 := Tryz.isAgg4
 z4 := Tryz.sizeOf4
 v4 := Tryz.zeroValue4
 t5 := Tryz.underlying5
 a5 := Tryz.isAgg5
 z5 := Tryz.sizeOf5
 v5 := Tryz.zeroValue5
 t9 := Tryz.underlying9
 a9 := Tryz.isAgg9
 z9 := Tryz.sizeOf9
 v9 := Tryz.zeroValue9
 t46 := Tryz.underlying248
 a46 := Tryz.isAgg248
 z46 := Tryz.sizeOf248
 v46 := Tryz.zeroValue248
 t51 := Tryz.underlying277
 a51 := Tryz.isAgg277
 z51 := Tryz.sizeOf277
 v51 := Tryz.zeroValue277
 t146 := Tryz.underlying278
 a146 := Tryz.isAgg278
 z146 := Tryz.sizeOf278
 v146 := Tryz.zeroValue278
 g1 := by kernel_rfl }
open Go.RowKit Go.Lib in
theorem Tryz.strings_Count_one (s : ByteArray) (c : UInt8) (w : World) :
 Calls Tryz.prog 22 #[.string s, .string ⟨#[c]⟩] w fun e w' => e = .returned (.int .i64 (Lib.countByte s.data.toList c)) ∧ w' = w := Any.strings_Count_one Tryz.lays138 s c w
def Tryz.lays206_ren : Go.Shelf.Ren := ⟨fun | 206 => 244 | n => n, fun | 9 => 9 | 4 => 4 | 3 => 3 | n => n, fun | n => n⟩
def Tryz.lays99_ren : Go.Shelf.Ren := ⟨fun | 99 => 155 | 206 => 244 | n => n, fun | 9 => 9 | 4 => 4 | 3 => 3 | n => n, fun | n => n⟩
theorem Tryz.lays99 : Go.Proofs.Lays.n99 Tryz.prog Tryz.lays99_ren := {
 mixed := by kernel_rfl
 f99 := Tryz.func155.trans (congrArg some (by kernel_rfl))
 f206 := Tryz.func244.trans (congrArg some (by kernel_rfl))
 t3 := Tryz.underlying3
 a3 := Tryz.isAgg3
 z3 := Tryz.sizeOf3
 v3 := Tryz.zeroValue3
 t4 := Tryz.underlying4
 a4 := Tryz.isAgg4
 z4 := Tryz.sizeOf4
 v4 := Tryz.zeroValue4
 t9 := Tryz.underlying9
 a9 := Tryz.isAgg9
 z9 := Tryz.sizeOf9
 v9 := Tryz.zeroValue9 }
open Go.RowKit Go.Lib in
theorem Tryz.strings_HasPrefix (s p : ByteArray) (w : World) :
 Calls Tryz.prog 155 #[.string s, .string p] w fun e w' => e = .returned (.bool (Lib.hasPrefix s.data.toList p.data.toList)) ∧ w' = w := Any.strings_HasPrefix Tryz.lays99 s p w
def Tryz.lays157_ren : Go.Shelf.Ren := ⟨fun | 157 => 240 | 229 => 280 | 199 => 281 | 261 => 305 | 311 => 321 | 312 => 322 | n => n, fun | 9 => 9 | 31 => 46 | 3 => 3 | 5 => 5 | 4 => 4 | 119 => 269 | 0 => 0 | 40 => 271 | 152 => 293 | 21 => 21 | 154 => 295 | 51 => 277 | 141 => 297 | 196 => 311 | 193 => 308 | 198 => 314 | 49 => 312 | 194 => 309 | 201 => 317 | 226 => 329 | 46 => 248 | 227 => 330 | n => n, fun | 0 => 1 | 6 => 2 | n => n⟩
def Tryz.laysM157_ren : Go.Shelf.Ren := ⟨fun | 157 => 240 | 229 => 280 | 199 => 281 | 261 => 305 | 311 => 321 | 312 => 322 | n => n, fun | 9 => 9 | 31 => 46 | 3 => 3 | 5 => 5 | 4 => 4 | 119 => 269 | 0 => 0 | 40 => 271 | 152 => 293 | 21 => 21 | 154 => 295 | 51 => 277 | 141 => 297 | 196 => 311 | 193 => 308 | 198 => 314 | 49 => 312 | 194 => 309 | 201 => 317 | 226 => 329 | 46 => 248 | 227 => 330 | n => n, fun | 0 => 1 | 6 => 2 | n => n⟩
theorem Tryz.laysM157 : Go.Proofs.LaysM.n157 Tryz.prog Tryz.laysM157_ren := {
 mixed := by kernel_rfl
 f157 := Tryz.func240.trans (congrArg some (by kernel_rfl))
 f199 := Tryz.func281.trans (congrArg some (by kernel_rfl))
 f229 := Tryz.func280.trans (congrArg some (by kernel_rfl))
 f261 := Tryz.func305.trans (congrArg some (by kernel_rfl))
 f311 := Tryz.func321.trans (congrArg some (by kernel_rfl))
 f312 := Tryz.func322.trans (congrArg some (by kernel_rfl))
 t0 := Tryz.underlying0
 a0 := Tryz.isAgg0
 z0 := Tryz.sizeOf0
 v0 := Tryz.zeroValue0
 t3 := Tryz.underlying3
 a3 := Tryz.isAgg3
 z3 := Tryz.sizeOf3
 v3 := Tryz.zeroValue3
 t4 := Tryz.underlying4
 a4 := Tryz.isAgg4
 z4 := Tryz.sizeOf4
 v4 := Tryz.zeroValue4
 t5 := Tryz.underlying5
 a5 := Tryz.isAgg5
 z5 := Tryz.sizeOf5
 v5 := Tryz.zeroValue5
 t9 := Tryz.underlying9
 a9 := Tryz.isAgg9
 z9 := Tryz.sizeOf9
 v9 := Tryz.zeroValue9
 t21 := Tryz.underlying21
 a21 := Tryz.isAgg21
 z21 := Tryz.sizeOf21
 v21 := Tryz.zeroValue21
 t31 := Tryz.underlying46
 a31 := Tryz.isAgg46
 z31 := Tryz.sizeOf46
 v31 := Tryz.zeroValue46
 t40 := Tryz.underlying271
 a40 := Tryz.isAgg271
 z40 := Tryz.sizeOf271
 v40 := Tryz.zeroValue271
 t46 := Tryz.underlying248
 a46 := Tryz.isAgg248
 z46 := Tryz.sizeOf248
 v46 := Tryz.zeroValue248
 t49 := Tryz.underlying312
 a49 := Tryz.isAgg312
 z49 := Tryz.sizeOf312
 v49 := Tryz.zeroValue312
 t51 := Tryz.underlying277
 a51 := Tryz.isAgg277
 z51 := Tryz.sizeOf277
 v51 := Tryz.zeroValue277
 t119 := Tryz.underlying269
 a119 := Tryz.isAgg269
 z119 := Tryz.sizeOf269
 t141 := Tryz.underlying297
 a141 := Tryz.isAgg297
 z141 := Tryz.sizeOf297
 v141 := Tryz.zeroValue297
 t152 := Tryz.underlying293
 a152 := Tryz.isAgg293
 z152 := Tryz.sizeOf293
 v152 := Tryz.zeroValue293
 t154 := Tryz.underlying295
 a154 := Tryz.isAgg295
 z154 := Tryz.sizeOf295
 v154 := Tryz.zeroValue295
 t193 := Tryz.underlying308
 a193 := Tryz.isAgg308
 z193 := Tryz.sizeOf308
 v193 := Tryz.zeroValue308
 t194 := Tryz.underlying309
 a194 := Tryz.isAgg309
 z194 := Tryz.sizeOf309
 v194 := Tryz.zeroValue309
 t196 := Tryz.underlying311
 a196 := Tryz.isAgg311
 z196 := Tryz.sizeOf311
 v196 := Tryz.zeroValue311
 t198 := Tryz.underlying314
 a198 := Tryz.isAgg314
 z198 := Tryz.sizeOf314
 v198 := Tryz.zeroValue314
 t201 := Tryz.underlying317
 a201 := Tryz.isAgg317
 z201 := Tryz.sizeOf317
 v201 := Tryz.zeroValue317
 t226 := Tryz.underlying329
 a226 := Tryz.isAgg329
 z226 := Tryz.sizeOf329
 v226 := Tryz.zeroValue329
 t227 := Tryz.underlying330
 a227 := Tryz.isAgg330
 z227 := Tryz.sizeOf330
 v227 := Tryz.zeroValue330
 g0 := by kernel_rfl
 g6 := by kernel_rfl
 i0 := by kernel_rfl
 i3 := by kernel_rfl
 i4 := by kernel_rfl
 i5 := by kernel_rfl
 i9 := by kernel_rfl
 i21 := by kernel_rfl
 i31 := by kernel_rfl
 i40 := by kernel_rfl
 i46 := by kernel_rfl
 i49 := by kernel_rfl
 i51 := by kernel_rfl
 i141 := by kernel_rfl
 i152 := by kernel_rfl
 i154 := by kernel_rfl
 i193 := by kernel_rfl
 i194 := by kernel_rfl
 i196 := by kernel_rfl
 i198 := by kernel_rfl
 i201 := by kernel_rfl
 i226 := by kernel_rfl
 i227 := by kernel_rfl
 m0 := by kernel_rfl
 m6 := by kernel_rfl }
open Go.RowKit Go.Lib in
theorem Tryz.strings_Fields_laid (s : ByteArray) (w : World) (hs : s.size < 4294967281) (hascii : ∀ (j : Nat) b, s.data.toList[j]? = some b → b.toNat < 128) (htab : Lib.TabIs Tryz.prog w "strings.asciiSpace" .u8 Lib.asciiSpaceTab) :
 Calls Tryz.prog 240 #[.string s] w fun e w' =>
  e = .returned (.slice (some ⟨w.heap.size, 0, none⟩) (Lib.fields s.data.toList).length (Lib.fields s.data.toList).length) ∧ w' = w.alloc (.cells ((Lib.fields s.data.toList).map fun l => Value.string ⟨l.toArray⟩).toArray 9) := Any.strings_Fields_laid Tryz.laysM157 s w hs hascii htab
end Go.Proofs
