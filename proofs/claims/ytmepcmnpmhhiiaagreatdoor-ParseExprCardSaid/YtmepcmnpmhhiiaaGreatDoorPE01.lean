/- Texts of the proof that ParseExpr holds, part 1; no conditions. -/
import Derived.Shelf.Strings.Builder1
import Derived.Shelf.Strings.Builder2
import Derived.Shelf.Strings.OnBuilder
import Derived.Shelf.Strings.Trim
import Derived.Shelf.Small.Utf8
import Derived.Shelf.Small.Strs
import Derived.Shelf.Small.Wraps
import Derived.Shelf.Strings.BuilderF
import Derived.Shelf.Strings.BuilderK
import Derived.Shelf.Strings.Builder2Cap
import Derived.Shelf.Strconv.Atoi
import Derived.Shelf.Strconv.Itoa0
import Derived.Shelf.Strconv.Itoa1
import Derived.Shelf.LaysM
import Derived.Shelf.Strconv.Itoa2
import Derived.Shelf.Strconv.Itoa3
import Derived.Shelf.Strconv.ParseIntEmpty
import Derived.Shelf.Strconv.Clone
import Derived.Shelf.Strconv.SyntaxError
import Derived.Shelf.LaysC
import Derived.Shelf.Strconv.ToError
import Derived.Shelf.Strconv.Lower
import Derived.Shelf.Strconv.ParseUint10
import Derived.Shelf.Strconv.ParseUint10Empty
import Derived.Shelf.Strconv.ParseUint10Any
import Derived.Shelf.Strconv.ParseInt10
import Derived.Shelf.Strconv.RangeError
import Derived.Shelf.Strconv.ToErrorRange
import Derived.Shelf.Strconv.ParseUintEmpty
import Derived.Shelf.Strconv.ParseUint10b64
import Derived.Shelf.Strconv.ParseUint10b32
import Derived.Shelf.Strconv.ParseUint10b16
import Derived.Shelf.Strconv.ParseUint10b8
import Derived.Shelf.Strconv.ParseUint10At
import Derived.Shelf.Strconv.ParseInt10At64
import Derived.Shelf.Strconv.ParseInt10At32
import Derived.Shelf.Strconv.ParseInt10At16
import Derived.Shelf.Strconv.ParseInt10At8
import Derived.Shelf.Strconv.ParseInt10All
import Derived.Shelf.Strconv.ParseIntPublic10
import Derived.Shelf.Strings.Search1
import Derived.Shelf.Strings.Search2
import Derived.Shelf.Strings.Search3
import Derived.Shelf.Strings.Count
import Derived.Shelf.Strings.Shaped
import Derived.Shelf.Strings.Prefix
import Derived.Shelf.Strings.Split
import Derived.Shelf.Strings.Fields
import Derived.Shelf.Strings.SplitShaped
import Derived.Shelf.Unicode.Latin
import Derived.Shelf.Strings.Runes
import Derived.Shelf.Strings.AsciiSet
import Derived.Shelf.Bits.Mul64
import Derived.Shelf.Strings.Repeat
import Derived.Shelf.Unicode.DecodeSlow
import Derived.Shelf.Unicode.Is16White
import Derived.Shelf.Unicode.IsSpaceAny
import Derived.Shelf.Unicode.Is16Any
import Derived.Shelf.Unicode.Is32Any
import Derived.Shelf.Unicode.ExclAny
import Derived.Shelf.Strings.BuilderCap
import Derived.Shelf.Slices.Equal
import Derived.Shelf.Slices.Empties2
import Derived.Test.YtmepcmnpmhhiiaaGreatDoorProg
namespace Go.Proofs
open Go.Shelf
def Tryz.lays156_ren : Go.Shelf.Ren := ⟨fun | 156 => 44 | 165 => 113 | 166 => 114 | 169 => 79 | 240 => 182 | 241 => 183 | 276 => 216 | 277 => 217 | n => n, fun | 31 => 52 | 9 => 9 | 3 => 3 | 4 => 4 | 0 => 0 | 20 => 20 | 72 => 111 | 76 => 150 | 70 => 108 | 37 => 109 | 75 => 149 | 127 => 179 | 164 => 225 | 5 => 5 | 80 => 119 | n => n, fun | n => n⟩
theorem Tryz.lays156 : Go.Proofs.Lays.n156 Tryz.prog Tryz.lays156_ren := {
 mixed := by kernel_rfl
 f156 := Tryz.func44.trans (congrArg some (by kernel_rfl))
 f165 := Tryz.func113.trans (congrArg some (by kernel_rfl))
 f166 := Tryz.func114.trans (congrArg some (by kernel_rfl))
 f169 := Tryz.func79.trans (congrArg some (by kernel_rfl))
 f240 := Tryz.func182.trans (congrArg some (by kernel_rfl))
 f241 := Tryz.func183.trans (congrArg some (by kernel_rfl))
 f276 := Tryz.func216.trans (congrArg some (by kernel_rfl))
 f277 := Tryz.func217.trans (congrArg some (by kernel_rfl))
 t0 := Tryz.underlying0
 a0 := Tryz.isAgg0
 z0 := Tryz.sizeOf0
 v0 := Tryz.zeroValue0
 t3 := Tryz.underlying3
 a3 := Tryz.isAgg3
 z3 := Tryz.sizeOf3
 v3 := Tryz.zeroValue3
 t4 := Tryz.underlying4
 a4 := Tryz.isAgg4
 z4 := Tryz.sizeOf4
 v4 := Tryz.zeroValue4
 t9 := Tryz.underlying9
 a9 := Tryz.isAgg9
 z9 := Tryz.sizeOf9
 v9 := Tryz.zeroValue9
 t20 := Tryz.underlying20
 a20 := Tryz.isAgg20
 z20 := Tryz.sizeOf20
 v20 := Tryz.zeroValue20
 t31 := Tryz.underlying52
 a31 := Tryz.isAgg52
 z31 := Tryz.sizeOf52
 v31 := Tryz.zeroValue52
 t37 := Tryz.underlying109
 a37 := Tryz.isAgg109
 z37 := Tryz.sizeOf109
 v37 := Tryz.zeroValue109
 t70 := Tryz.underlying108
 a70 := Tryz.isAgg108
 z70 := Tryz.sizeOf108
 v70 := Tryz.zeroValue108
 t72 := Tryz.underlying111
 a72 := Tryz.isAgg111
 z72 := Tryz.sizeOf111
 v72 := Tryz.zeroValue111
 t75 := Tryz.underlying149
 a75 := Tryz.isAgg149
 z75 := Tryz.sizeOf149
 v75 := Tryz.zeroValue149
 t76 := Tryz.underlying150
 a76 := Tryz.isAgg150
 z76 := Tryz.sizeOf150
 v76 := Tryz.zeroValue150
 t127 := Tryz.underlying179
 a127 := Tryz.isAgg179
 z127 := Tryz.sizeOf179
 v127 := Tryz.zeroValue179
 t164 := Tryz.underlying225
 a164 := Tryz.isAgg225
 z164 := Tryz.sizeOf225
 v164 := Tryz.zeroValue225 }
theorem Tryz.Builder_Extra_156 : Builder.Extra Tryz.prog Tryz.lays156_ren := {
 sizeBuilder := by kernel_rfl
 liesBuilder := by kernel_rfl
 t5 := Tryz.underlying5
 a5 := Tryz.isAgg5
 z5 := Tryz.sizeOf5
 v5 := Tryz.zeroValue5
 infoByte := by kernel_rfl
 cellsByte := by kernel_rfl
 sizeByte := by kernel_rfl
 neB5 := by decide }
open Go.RowKit in
theorem Tryz.strings_Join_none (a : Option Addr) (c : Nat) (sep : ByteArray) (w : World) :
 Calls Tryz.prog 44 #[.slice a 0 c, .string sep] w fun e w' => e = .returned (.string ⟨#[]⟩) ∧ w' = w := Any.strings_Join_none Tryz.lays156 Tryz.Builder_Extra_156 a c sep w
open Go.RowKit in
theorem Tryz.strings_Join (bk o c : Nat) (xs : List ByteArray) (sep : ByteArray) (w : World) (hcells : ∀ (j : Nat) x, xs[j]? = some x → w.cell? ⟨bk, o + j, none⟩ = some (.string x)) (hbk : bk < w.heap.size) (hN : xs.length ≤ 140737488355328) (hcap : xs.length ≤ c) (hlen : (Lib.join (xs.map (·.data.toList)) sep.data.toList).length ≤ 140737488355328) :
 Calls Tryz.prog 44 #[.slice (some ⟨bk, o, none⟩) xs.length c, .string sep] w fun e w' => e = .returned (.string ⟨(Lib.join (xs.map (·.data.toList)) sep.data.toList).toArray⟩) ∧ Below w.heap.size w w' := Any.strings_Join Tryz.lays156 Tryz.Builder_Extra_156 bk o c xs sep w hcells hbk hN hcap hlen
def Tryz.lays161_ren : Go.Shelf.Ren := ⟨fun | 161 => 196 | 231 => 206 | 227 => 208 | 233 => 209 | 235 => 211 | 228 => 234 | 197 => 235 | 151 => 236 | 260 => 248 | 152 => 249 | 137 => 20 | 119 => 257 | 224 => 191 | 225 => 190 | 217 => 61 | 266 => 139 | n => n, fun | 9 => 9 | 4 => 4 | 3 => 3 | 5 => 5 | 117 => 217 | 116 => 216 | 0 => 0 | 124 => 220 | 105 => 253 | 21 => 21 | 119 => 173 | 46 => 199 | 139 => 277 | 138 => 276 | n => n, fun | 3 => 6 | 4 => 7 | n => n⟩
theorem Tryz.lays161 : Go.Proofs.Lays.n161 Tryz.prog Tryz.lays161_ren := {
 mixed := by kernel_rfl
 f119 := Tryz.func257.trans (congrArg some (by kernel_rfl))
 f137 := Tryz.func20.trans (congrArg some (by kernel_rfl))
 f151 := Tryz.func236.trans (congrArg some (by kernel_rfl))
 f152 := Tryz.func249.trans (congrArg some (by kernel_rfl))
 f161 := Tryz.func196.trans (congrArg some (by kernel_rfl))
 f197 := Tryz.func235.trans (congrArg some (by kernel_rfl))
 f217 := Tryz.func61.trans (congrArg some (by kernel_rfl))
 f224 := Tryz.func191.trans (congrArg some (by kernel_rfl))
 f225 := Tryz.func190.trans (congrArg some (by kernel_rfl))
 f227 := Tryz.func208.trans (congrArg some (by kernel_rfl))
 f228 := Tryz.func234.trans (congrArg some (by kernel_rfl))
 f231 := Tryz.func206.trans (congrArg some (by kernel_rfl))
 f233 := Tryz.func209.trans (congrArg some (by kernel_rfl))
 f235 := Tryz.func211.trans (congrArg some (by kernel_rfl))
 f260 := Tryz.func248.trans (congrArg some (by kernel_rfl))
 f266 := Tryz.func139.trans (congrArg some (by kernel_rfl))
 t0 := Tryz.underlying0
 a0 := Tryz.isAgg0
 z0 := Tryz.sizeOf0
 v0 := Tryz.zeroValue0
 t3 := Tryz.underlying3
 a3 := Tryz.isAgg3
 z3 := Tryz.sizeOf3
 v3 := Tryz.zeroValue3
 t4 := Tryz.underlying4
 a4 := Tryz.isAgg4
 z4 := Tryz.sizeOf4
 v4 := Tryz.zeroValue4
 t5 := Tryz.underlying5
 a5 := Tryz.isAgg5
 z5 := Tryz.sizeOf5
 v5 := Tryz.zeroValue5
 t9 := Tryz.underlying9
 a9 := Tryz.isAgg9
 z9 := Tryz.sizeOf9
 v9 := Tryz.zeroValue9
 t21 := Tryz.underlying21
 a21 := Tryz.isAgg21
 z21 := Tryz.sizeOf21
 v21 := Tryz.zeroValue21
 t46 := Tryz.underlying199
 a46 := Tryz.isAgg199
 z46 := Tryz.sizeOf199
 v46 := Tryz.zeroValue199
 t105 := Tryz.underlying253
 a105 := Tryz.isAgg253
 z105 := Tryz.sizeOf253
 v105 := Tryz.zeroValue253
 t116 := Tryz.underlying216
 a116 := Tryz.isAgg216
 z116 := Tryz.sizeOf216
 t117 := Tryz.underlying217
 a117 := Tryz.isAgg217
 z117 := Tryz.sizeOf217
 v117 := Tryz.zeroValue217
 t119 := Tryz.underlying173
 a119 := Tryz.isAgg173
 z119 := Tryz.sizeOf173
 t124 := Tryz.underlying220
 a124 := Tryz.isAgg220
 z124 := Tryz.sizeOf220
 v124 := Tryz.zeroValue220
 t138 := Tryz.underlying276
 a138 := Tryz.isAgg276
 z138 := Tryz.sizeOf276
 v138 := Tryz.zeroValue276
 t139 := Tryz.underlying277
 a139 := Tryz.isAgg277
 z139 := Tryz.sizeOf277
 v139 := Tryz.zeroValue277
 g3 := by kernel_rfl
 g4 := by kernel_rfl }
def Tryz.lays160_ren : Go.Shelf.Ren := ⟨fun | 160 => 166 | 232 => 207 | 231 => 206 | 227 => 208 | 234 => 210 | 233 => 209 | 236 => 212 | 235 => 211 | 228 => 234 | 271 => 237 | 151 => 236 | 197 => 235 | 120 => 250 | 152 => 249 | 260 => 248 | 137 => 20 | 119 => 257 | 224 => 191 | 225 => 190 | 217 => 61 | 266 => 139 | n => n, fun | 9 => 9 | 4 => 4 | 3 => 3 | 5 => 5 | 117 => 217 | 116 => 216 | 0 => 0 | 124 => 220 | 21 => 21 | 105 => 253 | 46 => 199 | 119 => 173 | 139 => 277 | 138 => 276 | n => n, fun | 3 => 6 | 4 => 7 | n => n⟩
theorem Tryz.lays160 : Go.Proofs.Lays.n160 Tryz.prog Tryz.lays160_ren := {
 mixed := by kernel_rfl
 f119 := Tryz.func257.trans (congrArg some (by kernel_rfl))
 f120 := Tryz.func250.trans (congrArg some (by kernel_rfl))
 f137 := Tryz.func20.trans (congrArg some (by kernel_rfl))
 f151 := Tryz.func236.trans (congrArg some (by kernel_rfl))
 f152 := Tryz.func249.trans (congrArg some (by kernel_rfl))
 f160 := Tryz.func166.trans (congrArg some (by kernel_rfl))
 f197 := Tryz.func235.trans (congrArg some (by kernel_rfl))
 f217 := Tryz.func61.trans (congrArg some (by kernel_rfl))
 f224 := Tryz.func191.trans (congrArg some (by kernel_rfl))
 f225 := Tryz.func190.trans (congrArg some (by kernel_rfl))
 f227 := Tryz.func208.trans (congrArg some (by kernel_rfl))
 f228 := Tryz.func234.trans (congrArg some (by kernel_rfl))
 f231 := Tryz.func206.trans (congrArg some (by kernel_rfl))
 f232 := Tryz.func207.trans (congrArg some (by kernel_rfl))
 f233 := Tryz.func209.trans (congrArg some (by kernel_rfl))
 f234 := Tryz.func210.trans (congrArg some (by kernel_rfl))
 f235 := Tryz.func211.trans (congrArg some (by kernel_rfl))
 f236 := Tryz.func212.trans (congrArg some (by kernel_rfl))
 f260 := Tryz.func248.trans (congrArg some (by kernel_rfl))
 f266 := Tryz.func139.trans (congrArg some (by kernel_rfl))
 f271 := Tryz.func237.trans (congrArg some (by kernel_rfl))
 t0 := Tryz.underlying0
 a0 := Tryz.isAgg0
 z0 := Tryz.sizeOf0
 v0 := Tryz.zeroValue0
 t3 := Tryz.underlying3
 a3 := Tryz.isAgg3
 z3 := Tryz.sizeOf3
 v3 := Tryz.zeroValue3
 t4 := Tryz.underlying4
 a4 := Tryz.isAgg4
 z4 := Tryz.sizeOf4
 v4 := Tryz.zeroValue4
 t5 := Tryz.underlying5
 a5 := Tryz.isAgg5
 z5 := Tryz.sizeOf5
 v5 := Tryz.zeroValue5
 t9 := Tryz.underlying9
 a9 := Tryz.isAgg9
 z9 := Tryz.sizeOf9
 v9 := Tryz.zeroValue9
 t21 := Tryz.underlying21
 a21 := Tryz.isAgg21
 z21 := Tryz.sizeOf21
 v21 := Tryz.zeroValue21
 t46 := Tryz.underlying199
 a46 := Tryz.isAgg199
 z46 := Tryz.sizeOf199
 v46 := Tryz.zeroValue199
 t105 := Tryz.underlying253
 a105 := Tryz.isAgg253
 z105 := Tryz.sizeOf253
 v105 := Tryz.zeroValue253
 t116 := Tryz.underlying216
 a116 := Tryz.isAgg216
 z116 := Tryz.sizeOf216
 t117 := Tryz.underlying217
 a117 := Tryz.isAgg217
 z117 := Tryz.sizeOf217
 v117 := Tryz.zeroValue217
 t119 := Tryz.underlying173
 a119 := Tryz.isAgg173
 z119 := Tryz.sizeOf173
 t124 := Tryz.underlying220
 a124 := Tryz.isAgg220
 z124 := Tryz.sizeOf220
 v124 := Tryz.zeroValue220
 t138 := Tryz.underlying276
 a138 := Tryz.isAgg276
 z138 := Tryz.sizeOf276
 v138 := Tryz.zeroValue276
 t139 := Tryz.underlying277
 a139 := Tryz.isAgg277
 z139 := Tryz.sizeOf277
 v139 := Tryz.zeroValue277
 g3 := by kernel_rfl
 g4 := by kernel_rfl }
def Tryz.lays137_ren : Go.Shelf.Ren := ⟨fun | 137 => 20 | 217 => 61 | 266 => 139 | n => n, fun | 9 => 9 | 5 => 5 | 3 => 3 | n => n, fun | n => n⟩
theorem Tryz.lays137 : Go.Proofs.Lays.n137 Tryz.prog Tryz.lays137_ren := {
 mixed := by kernel_rfl
 f137 := Tryz.func20.trans (congrArg some (by kernel_rfl))
 f217 := Tryz.func61.trans (congrArg some (by kernel_rfl))
 f266 := Tryz.func139.trans (congrArg some (by kernel_rfl))
 t3 := Tryz.underlying3
 a3 := Tryz.isAgg3
 z3 := Tryz.sizeOf3
 v3 := Tryz.zeroValue3
 t5 := Tryz.underlying5
 a5 := Tryz.isAgg5
 z5 := Tryz.sizeOf5
 v5 := Tryz.zeroValue5
 t9 := Tryz.underlying9
 a9 := Tryz.isAgg9
 z9 := Tryz.sizeOf9
 v9 := Tryz.zeroValue9 }
open Go.RowKit in
theorem Tryz.strings_IndexByte (s : ByteArray) (c : Int) (w : World) :
 Calls Tryz.prog 20 #[.string s, .int .u8 c] w fun e w' => e = .returned (.int .i64 (Lib.indexByte s.data.toList c.toNat.toUInt8)) ∧ w' = w := Any.strings_IndexByte Tryz.lays137 s c w
def Tryz.lays214_ren : Go.Shelf.Ren := ⟨fun | 214 => 181 | n => n, fun | 4 => 4 | 9 => 9 | n => n, fun | n => n⟩
def Tryz.lays121_ren : Go.Shelf.Ren := ⟨fun | 121 => 112 | 214 => 181 | n => n, fun | 4 => 4 | 9 => 9 | n => n, fun | n => n⟩
theorem Tryz.lays121 : Go.Proofs.Lays.n121 Tryz.prog Tryz.lays121_ren := {
 mixed := by kernel_rfl
 f121 := Tryz.func112.trans (congrArg some (by kernel_rfl))
 f214 := Tryz.func181.trans (congrArg some (by kernel_rfl))
 t4 := Tryz.underlying4
 a4 := Tryz.isAgg4
 z4 := Tryz.sizeOf4
 v4 := Tryz.zeroValue4
 t9 := Tryz.underlying9
 a9 := Tryz.isAgg9
 z9 := Tryz.sizeOf9
 v9 := Tryz.zeroValue9 }
open Go.RowKit in
theorem Tryz.strconv_FormatBool (b : Bool) (w : World) :
 Calls Tryz.prog 112 #[.bool b] w fun e w' => e = .returned (.string ⟨(Lib.formatBool b).toArray⟩) ∧ w' = w := Any.strconv_FormatBool Tryz.lays121 b w
def Tryz.lays172_ren : Go.Shelf.Ren := ⟨fun | 172 => 188 | 244 => 218 | 245 => 219 | 247 => 229 | 279 => 238 | 280 => 239 | 281 => 240 | 282 => 241 | 287 => 247 | 316 => 251 | 171 => 67 | 205 => 252 | 321 => 255 | 322 => 256 | 243 => 143 | 246 => 194 | 283 => 225 | 284 => 226 | 285 => 227 | 286 => 228 | 129 => 243 | 317 => 242 | 318 => 244 | 319 => 245 | 320 => 246 | 337 => 253 | 338 => 254 | n => n, fun | 9 => 9 | 3 => 3 | 75 => 149 | 76 => 150 | 4 => 4 | 5 => 5 | 167 => 256 | 37 => 109 | 0 => 0 | 85 => 208 | 2 => 2 | 168 => 257 | 53 => 244 | 175 => 266 | 46 => 199 | 210 => 271 | 127 => 179 | 145 => 280 | 143 => 278 | 21 => 21 | 171 => 243 | 173 => 247 | 212 => 263 | 51 => 203 | 20 => 20 | 213 => 264 | 232 => 281 | 233 => 282 | 80 => 119 | n => n, fun | 15 => 4 | 16 => 5 | 17 => 3 | 18 => 8 | 19 => 9 | n => n⟩
theorem Tryz.lays172 : Go.Proofs.Lays.n172 Tryz.prog Tryz.lays172_ren := {
 mixed := by kernel_rfl
 f129 := Tryz.func243.trans (congrArg some (by kernel_rfl))
 f171 := Tryz.func67.trans (congrArg some (by kernel_rfl))
 f172 := Tryz.func188.trans (congrArg some (by kernel_rfl))
 f205 := Tryz.func252.trans (congrArg some (by kernel_rfl))
 f243 := Tryz.func143.trans (congrArg some (by kernel_rfl))
 f244 := Tryz.func218.trans (congrArg some (by kernel_rfl))
 f245 := Tryz.func219.trans (congrArg some (by kernel_rfl))
 f246 := Tryz.func194.trans (congrArg some (by kernel_rfl))
 f247 := Tryz.func229.trans (congrArg some (by kernel_rfl))
 f279 := Tryz.func238.trans (congrArg some (by kernel_rfl))
 f280 := Tryz.func239.trans (congrArg some (by kernel_rfl))
 f281 := Tryz.func240.trans (congrArg some (by kernel_rfl))
 f282 := Tryz.func241.trans (congrArg some (by kernel_rfl))
 f283 := Tryz.func225.trans (congrArg some (by kernel_rfl))
 f284 := Tryz.func226.trans (congrArg some (by kernel_rfl))
 f285 := Tryz.func227.trans (congrArg some (by kernel_rfl))
 f286 := Tryz.func228.trans (congrArg some (by kernel_rfl))
 f287 := Tryz.func247.trans (congrArg some (by kernel_rfl))
 f316 := Tryz.func251.trans (congrArg some (by kernel_rfl))
 f317 := Tryz.func242.trans (congrArg some (by kernel_rfl))
 f318 := Tryz.func244.trans (congrArg some (by kernel_rfl))
 f319 := Tryz.func245.trans (congrArg some (by kernel_rfl))
 f320 := Tryz.func246.trans (congrArg some (by kernel_rfl))
 f321 := Tryz.func255.trans (congrArg some (by kernel_rfl))
 f322 := Tryz.func256.trans (congrArg some (by kernel_rfl))
 f337 := Tryz.func253.trans (congrArg some (by kernel_rfl))
 f338 := Tryz.func254.trans (congrArg some (by kernel_rfl))
 t0 := Tryz.underlying0
 a0 := Tryz.isAgg0
 z0 := Tryz.sizeOf0
 v0 := Tryz.zeroValue0
 t2 := Tryz.underlying2
 a2 := Tryz.isAgg2
 z2 := Tryz.sizeOf2
 v2 := Tryz.zeroValue2
 t3 := Tryz.underlying3
 a3 := Tryz.isAgg3
 z3 := Tryz.sizeOf3
 v3 := Tryz.zeroValue3
 t4 := Tryz.underlying4
 a4 := Tryz.isAgg4
 z4 := Tryz.sizeOf4
 v4 := Tryz.zeroValue4
 t5 := Tryz.underlying5
 a5 := Tryz.isAgg5
 z5 := Tryz.sizeOf5
 v5 := Tryz.zeroValue5
 t9 := Tryz.underlying9
 a9 := Tryz.isAgg9
 z9 := Tryz.sizeOf9
 v9 := Tryz.zeroValue9
 t20 := Tryz.underlying20
 a20 := Tryz.isAgg20
 z20 := Tryz.sizeOf20
 v20 := Tryz.zeroValue20
 t21 := Tryz.underlying21
 a21 := Tryz.isAgg21
 z21 := Tryz.sizeOf21
 v21 := Tryz.zeroValue21
 t37 := Tryz.underlying109
 a37 := Tryz.isAgg109
 z37 := Tryz.sizeOf109
 v37 := Tryz.zeroValue109
 t46 := Tryz.underlying199
 a46 := Tryz.isAgg199
 z46 := Tryz.sizeOf199
 v46 := Tryz.zeroValue199
 t51 := Tryz.underlying203
 a51 := Tryz.isAgg203
 z51 := Tryz.sizeOf203
 v51 := Tryz.zeroValue203
 t53 := Tryz.underlying244
 a53 := Tryz.isAgg244
 z53 := Tryz.sizeOf244
 v53 := Tryz.zeroValue244
 t75 := Tryz.underlying149
 a75 := Tryz.isAgg149
 z75 := Tryz.sizeOf149
 v75 := Tryz.zeroValue149
 t76 := Tryz.underlying150
 a76 := Tryz.isAgg150
 z76 := Tryz.sizeOf150
 v76 := Tryz.zeroValue150
 t85 := Tryz.underlying208
 a85 := Tryz.isAgg208
 z85 := Tryz.sizeOf208
 v85 := Tryz.zeroValue208
 t127 := Tryz.underlying179
 a127 := Tryz.isAgg179
 z127 := Tryz.sizeOf179
 v127 := Tryz.zeroValue179
 t143 := Tryz.underlying278
 a143 := Tryz.isAgg278
 z143 := Tryz.sizeOf278
 v143 := Tryz.zeroValue278
 t145 := Tryz.underlying280
 a145 := Tryz.isAgg280
 z145 := Tryz.sizeOf280
 v145 := Tryz.zeroValue280
 t167 := Tryz.underlying256
 a167 := Tryz.isAgg256
 z167 := Tryz.sizeOf256
 v167 := Tryz.zeroValue256
 t168 := Tryz.underlying257
 a168 := Tryz.isAgg257
 z168 := Tryz.sizeOf257
 v168 := Tryz.zeroValue257
 t171 := Tryz.underlying243
 a171 := Tryz.isAgg243
 z171 := Tryz.sizeOf243
 v171 := Tryz.zeroValue243
 t173 := Tryz.underlying247
 a173 := Tryz.isAgg247
 z173 := Tryz.sizeOf247
 v173 := Tryz.zeroValue247
 t175 := Tryz.underlying266
 a175 := Tryz.isAgg266
 z175 := Tryz.sizeOf266
 v175 := Tryz.zeroValue266
 t210 := Tryz.underlying271
 a210 := Tryz.isAgg271
 z210 := Tryz.sizeOf271
 v210 := Tryz.zeroValue271
 t212 := Tryz.underlying263
 a212 := Tryz.isAgg263
 z212 := Tryz.sizeOf263
 v212 := Tryz.zeroValue263
 t213 := Tryz.underlying264
 a213 := Tryz.isAgg264
 z213 := Tryz.sizeOf264
 t232 := Tryz.underlying281
 a232 := Tryz.isAgg281
 z232 := Tryz.sizeOf281
 v232 := Tryz.zeroValue281
 t233 := Tryz.underlying282
 a233 := Tryz.isAgg282
 z233 := Tryz.sizeOf282
 v233 := Tryz.zeroValue282
 g15 := by kernel_rfl
 g16 := by kernel_rfl
 g17 := by kernel_rfl
 g18 := by kernel_rfl
 g19 := by kernel_rfl }
open Go.RowKit in
theorem Tryz.strconv_Atoi (s : ByteArray) (n : Int) (hl : s.size ≤ 18) (h : Lib.atoi s.data.toList = some n) (w : World) :
 Calls Tryz.prog 188 #[.string s] w fun e w' => e = .returned (.tuple #[.int .i64 n, .nilIface]) ∧ ∃ t, w' = Lib.bytesWorld w 5 t := Any.strconv_Atoi Tryz.lays172 s n hl h w
def Tryz.laysM246_ren : Go.Shelf.Ren := ⟨fun | 246 => 194 | 283 => 225 | 284 => 226 | 285 => 227 | 286 => 228 | 129 => 243 | 317 => 242 | 318 => 244 | 319 => 245 | 320 => 246 | 337 => 253 | 338 => 254 | n => n, fun | 2 => 2 | 3 => 3 | 9 => 9 | 4 => 4 | 171 => 243 | 0 => 0 | 53 => 244 | 37 => 109 | 5 => 5 | 173 => 247 | 212 => 263 | 51 => 203 | 20 => 20 | 213 => 264 | 46 => 199 | 232 => 281 | 233 => 282 | n => n, fun | 17 => 3 | 18 => 8 | 19 => 9 | n => n⟩
def Tryz.laysM243_ren : Go.Shelf.Ren := ⟨fun | 243 => 143 | 246 => 194 | 283 => 225 | 284 => 226 | 285 => 227 | 286 => 228 | 129 => 243 | 317 => 242 | 318 => 244 | 319 => 245 | 320 => 246 | 337 => 253 | 338 => 254 | n => n, fun | 3 => 3 | 9 => 9 | 2 => 2 | 4 => 4 | 171 => 243 | 0 => 0 | 53 => 244 | 37 => 109 | 5 => 5 | 173 => 247 | 212 => 263 | 51 => 203 | 20 => 20 | 213 => 264 | 46 => 199 | 232 => 281 | 233 => 282 | n => n, fun | 17 => 3 | 18 => 8 | 19 => 9 | n => n⟩
def Tryz.laysM171_ren : Go.Shelf.Ren := ⟨fun | 171 => 67 | 243 => 143 | 246 => 194 | 283 => 225 | 284 => 226 | 285 => 227 | 286 => 228 | 129 => 243 | 317 => 242 | 318 => 244 | 319 => 245 | 320 => 246 | 337 => 253 | 338 => 254 | n => n, fun | 3 => 3 | 9 => 9 | 2 => 2 | 4 => 4 | 171 => 243 | 0 => 0 | 53 => 244 | 37 => 109 | 5 => 5 | 173 => 247 | 212 => 263 | 51 => 203 | 20 => 20 | 213 => 264 | 46 => 199 | 232 => 281 | 233 => 282 | n => n, fun | 17 => 3 | 18 => 8 | 19 => 9 | n => n⟩
theorem Tryz.laysM171 : Go.Proofs.LaysM.n171 Tryz.prog Tryz.laysM171_ren := {
 mixed := by kernel_rfl
 f129 := Tryz.func243.trans (congrArg some (by kernel_rfl))
 f171 := Tryz.func67.trans (congrArg some (by kernel_rfl))
 f243 := Tryz.func143.trans (congrArg some (by kernel_rfl))
 f246 := Tryz.func194.trans (congrArg some (by kernel_rfl))
 f283 := Tryz.func225.trans (congrArg some (by kernel_rfl))
 f284 := Tryz.func226.trans (congrArg some (by kernel_rfl))
 f285 := Tryz.func227.trans (congrArg some (by kernel_rfl))
 f286 := Tryz.func228.trans (congrArg some (by kernel_rfl))
 f317 := Tryz.func242.trans (congrArg some (by kernel_rfl))
 f318 := Tryz.func244.trans (congrArg some (by kernel_rfl))
 f319 := Tryz.func245.trans (congrArg some (by kernel_rfl))
 f320 := Tryz.func246.trans (congrArg some (by kernel_rfl))
 f337 := Tryz.func253.trans (congrArg some (by kernel_rfl))
 f338 := Tryz.func254.trans (congrArg some (by kernel_rfl))
 t0 := Tryz.underlying0
 a0 := Tryz.isAgg0
 z0 := Tryz.sizeOf0
 v0 := Tryz.zeroValue0
 t2 := Tryz.underlying2
 a2 := Tryz.isAgg2
 z2 := Tryz.sizeOf2
 v2 := Tryz.zeroValue2
 t3 := Tryz.underlying3
 a3 := Tryz.isAgg3
 z3 := Tryz.sizeOf3
 v3 := Tryz.zeroValue3
 t4 := Tryz.underlying4
 a4 := Tryz.isAgg4
 z4 := Tryz.sizeOf4
 v4 := Tryz.zeroValue4
 t5 := Tryz.underlying5
 a5 := Tryz.isAgg5
 z5 := Tryz.sizeOf5
 v5 := Tryz.zeroValue5
 t9 := Tryz.underlying9
 a9 := Tryz.isAgg9
 z9 := Tryz.sizeOf9
 v9 := Tryz.zeroValue9
 t20 := Tryz.underlying20
 a20 := Tryz.isAgg20
 z20 := Tryz.sizeOf20
 v20 := Tryz.zeroValue20
 t37 := Tryz.underlying109
 a37 := Tryz.isAgg109
 z37 := Tryz.sizeOf109
 v37 := Tryz.zeroValue109
 t46 := Tryz.underlying199
 a46 := Tryz.isAgg199
 z46 := Tryz.sizeOf199
 v46 := Tryz.zeroValue199
 t51 := Tryz.underlying203
 a51 := Tryz.isAgg203
 z51 := Tryz.sizeOf203
 v51 := Tryz.zeroValue203
 t53 := Tryz.underlying244
 a53 := Tryz.isAgg244
 z53 := Tryz.sizeOf244
 v53 := Tryz.zeroValue244
 t171 := Tryz.underlying243
 a171 := Tryz.isAgg243
 z171 := Tryz.sizeOf243
 v171 := Tryz.zeroValue243
 t173 := Tryz.underlying247
 a173 := Tryz.isAgg247
 z173 := Tryz.sizeOf247
 v173 := Tryz.zeroValue247
 t212 := Tryz.underlying263
 a212 := Tryz.isAgg263
 z212 := Tryz.sizeOf263
 v212 := Tryz.zeroValue263
 t213 := Tryz.underlying264
 a213 := Tryz.isAgg264
 z213 := Tryz.sizeOf264
 t232 := Tryz.underlying281
 a232 := Tryz.isAgg281
 z232 := Tryz.sizeOf281
 v232 := Tryz.zeroValue281
 t233 := Tryz.underlying282
 a233 := Tryz.isAgg282
 z233 := Tryz.sizeOf282
 v233 := Tryz.zeroValue282
 g17 := by kernel_rfl
 g18 := by kernel_rfl
 g19 := by kernel_rfl
 i0 := by kernel_rfl
 i2 := by kernel_rfl
 i3 := by kernel_rfl
 i4 := by kernel_rfl
 i5 := by kernel_rfl
 i9 := by kernel_rfl
 i20 := by kernel_rfl
 i37 := by kernel_rfl
 i46 := by kernel_rfl
 i51 := by kernel_rfl
 i53 := by kernel_rfl
 i171 := by kernel_rfl
 i173 := by kernel_rfl
 i212 := by kernel_rfl
 i232 := by kernel_rfl
 i233 := by kernel_rfl
 m17 := by kernel_rfl
 m18 := by kernel_rfl
 m19 := by kernel_rfl }
open Go.RowKit Go.Sort Go.Lib in
theorem Tryz.strconv_Itoa (n : Int) (h0 : -9223372036854775808 ≤ n) (h1 : n ≤ 9223372036854775807) (w : World) (htab : Lib.TabIs Tryz.prog w "internal/strconv.uint64pow10" .u64 Lib.pow10Tab) :
 Calls Tryz.prog 67 #[.int .i64 n] w fun e w' => e = .returned (.string ⟨(Lib.itoa n).toArray⟩) ∧ ∃ k os, w' = grow (w.drewN k) os := Any.strconv_Itoa Tryz.laysM171 n h0 h1 w htab
def Tryz.lays247_ren : Go.Shelf.Ren := ⟨fun | 247 => 229 | 287 => 247 | 321 => 255 | 322 => 256 | n => n, fun | 9 => 9 | 3 => 3 | 2 => 2 | 75 => 149 | 4 => 4 | 167 => 256 | 5 => 5 | 53 => 244 | 175 => 266 | 46 => 199 | 37 => 109 | 0 => 0 | 21 => 21 | 80 => 119 | n => n, fun | n => n⟩
def Tryz.laysC247_ren : Go.Shelf.Ren := ⟨fun | 247 => 229 | 287 => 247 | 321 => 255 | 322 => 256 | n => n, fun | 9 => 9 | 3 => 3 | 2 => 2 | 75 => 149 | 4 => 4 | 167 => 256 | 5 => 5 | 53 => 244 | 175 => 266 | 46 => 199 | 37 => 109 | 0 => 0 | 21 => 21 | 80 => 119 | n => n, fun | n => n⟩
theorem Tryz.laysC247 : Go.Proofs.LaysC.n247 Tryz.prog Tryz.laysC247_ren := {
 mixed := by kernel_rfl
 f247 := Tryz.func229.trans (congrArg some (by kernel_rfl))
 f287 := Tryz.func247.trans (congrArg some (by kernel_rfl))
 f321 := Tryz.func255.trans (congrArg some (by kernel_rfl))
 f322 := Tryz.func256.trans (congrArg some (by kernel_rfl))
 t0 := Tryz.underlying0
 a0 := Tryz.isAgg0
 z0 := Tryz.sizeOf0
 v0 := Tryz.zeroValue0
 t2 := Tryz.underlying2
 a2 := Tryz.isAgg2
 z2 := Tryz.sizeOf2
 v2 := Tryz.zeroValue2
 t3 := Tryz.underlying3
 a3 := Tryz.isAgg3
 z3 := Tryz.sizeOf3
 v3 := Tryz.zeroValue3
 t4 := Tryz.underlying4
 a4 := Tryz.isAgg4
 z4 := Tryz.sizeOf4
 v4 := Tryz.zeroValue4
 t5 := Tryz.underlying5
 a5 := Tryz.isAgg5
 z5 := Tryz.sizeOf5
 v5 := Tryz.zeroValue5
 t9 := Tryz.underlying9
 a9 := Tryz.isAgg9
 z9 := Tryz.sizeOf9
 v9 := Tryz.zeroValue9
 t21 := Tryz.underlying21
 a21 := Tryz.isAgg21
 z21 := Tryz.sizeOf21
 v21 := Tryz.zeroValue21
 t37 := Tryz.underlying109
 a37 := Tryz.isAgg109
 z37 := Tryz.sizeOf109
 v37 := Tryz.zeroValue109
 t46 := Tryz.underlying199
 a46 := Tryz.isAgg199
 z46 := Tryz.sizeOf199
 v46 := Tryz.zeroValue199
 t53 := Tryz.underlying244
 a53 := Tryz.isAgg244
 z53 := Tryz.sizeOf244
 v53 := Tryz.zeroValue244
 t75 := Tryz.underlying149
 a75 := Tryz.isAgg149
 z75 := Tryz.sizeOf149
 v75 := Tryz.zeroValue149
 t167 := Tryz.underlying256
 a167 := Tryz.isAgg256
 z167 := Tryz.sizeOf256
 v167 := Tryz.zeroValue256
 t175 := Tryz.underlying266
 a175 := Tryz.isAgg266
 z175 := Tryz.sizeOf266
 v175 := Tryz.zeroValue266
 t80 := Tryz.underlying119
 a80 := Tryz.isAgg119
 z80 := Tryz.sizeOf119
 v80 := Tryz.zeroValue119
 i0 := by kernel_rfl
 i2 := by kernel_rfl
 i3 := by kernel_rfl
 i4 := by kernel_rfl
 i5 := by kernel_rfl
 i9 := by kernel_rfl
 i21 := by kernel_rfl
 i37 := by kernel_rfl
 i46 := by kernel_rfl
 i53 := by kernel_rfl
 i75 := by kernel_rfl
 i80 := by kernel_rfl
 i167 := by kernel_rfl
 i175 := by kernel_rfl
 c0 := by kernel_rfl
 c2 := by kernel_rfl
 c3 := by kernel_rfl
 c4 := by kernel_rfl
 c5 := by kernel_rfl
 c9 := by kernel_rfl
 c21 := by kernel_rfl
 c37 := by kernel_rfl
 c46 := by kernel_rfl
 c53 := by kernel_rfl
 c75 := by kernel_rfl
 c80 := by kernel_rfl
 c167 := by kernel_rfl
 c175 := by kernel_rfl }
open Go.RowKit in
theorem Tryz.internal_strconv_ParseInt_10_at64 (s : ByteArray) (hne : s.size ≠ 0) (hmax : s.size ≤ 9223372036854775806) (w : World) :
 Calls Tryz.prog 229 #[.string s, .int .i64 10, .int .i64 64] w fun e w' => e = .returned (Lib.intTuple 256 (Lib.intSat 64 s.data.toList) (Lib.parseIntB 64 s.data.toList)) ∧ (w' = w ∨ ∃ t, w' = Lib.bytesWorld w 5 t) := Any.internal_strconv_ParseInt_10_at64 Tryz.laysC247 s hne hmax w
def Tryz.lays219_ren : Go.Shelf.Ren := ⟨fun | 219 => 138 | 217 => 61 | 225 => 190 | 224 => 191 | 267 => 192 | 266 => 139 | 314 => 222 | n => n, fun | 9 => 9 | 3 => 3 | 4 => 4 | 5 => 5 | 46 => 199 | 146 => 230 | 51 => 203 | n => n, fun | 1 => 0 | n => n⟩
def Tryz.lays144_ren : Go.Shelf.Ren := ⟨fun | 144 => 167 | 143 => 60 | 219 => 138 | 217 => 61 | 225 => 190 | 224 => 191 | 267 => 192 | 266 => 139 | 314 => 222 | n => n, fun | 9 => 9 | 4 => 4 | 3 => 3 | 5 => 5 | 46 => 199 | 146 => 230 | 51 => 203 | n => n, fun | 1 => 0 | n => n⟩
theorem Tryz.lays144 : Go.Proofs.Lays.n144 Tryz.prog Tryz.lays144_ren := {
 mixed := by kernel_rfl
 f143 := Tryz.func60.trans (congrArg some (by kernel_rfl))
 f144 := Tryz.func167.trans (congrArg some (by kernel_rfl))
 f217 := Tryz.func61.trans (congrArg some (by kernel_rfl))
 f219 := Tryz.func138.trans (congrArg some (by kernel_rfl))
 f224 := Tryz.func191.trans (congrArg some (by kernel_rfl))
 f225 := Tryz.func190.trans (congrArg some (by kernel_rfl))
 f266 := Tryz.func139.trans (congrArg some (by kernel_rfl))
 f267 := Tryz.func192.trans (congrArg some (by kernel_rfl))
 f314 := Tryz.func222.trans (congrArg some (by kernel_rfl))
 t3 := Tryz.underlying3
 a3 := Tryz.isAgg3
 z3 := Tryz.sizeOf3
 v3 := Tryz.zeroValue3
 t4 := Tryz.underlying4
 a4 := Tryz.isAgg4
 z4 := Tryz.sizeOf4
 v4 := Tryz.zeroValue4
 t5 := Tryz.underlying5
 a5 := Tryz.isAgg5
 z5 := Tryz.sizeOf5
 v5 := Tryz.zeroValue5
 t9 := Tryz.underlying9
 a9 := Tryz.isAgg9
 z9 := Tryz.sizeOf9
 v9 := Tryz.zeroValue9
 t46 := Tryz.underlying199
 a46 := Tryz.isAgg199
 z46 := Tryz.sizeOf199
 v46 := Tryz.zeroValue199
 t51 := Tryz.underlying203
 a51 := Tryz.isAgg203
 z51 := Tryz.sizeOf203
 v51 := Tryz.zeroValue203
 t146 := Tryz.underlying230
 a146 := Tryz.isAgg230
 z146 := Tryz.sizeOf230
 v146 := Tryz.zeroValue230
 g1 := by kernel_rfl }
open Go.RowKit Go.Lib in
theorem Tryz.strings_Contains_one (s : ByteArray) (c : UInt8) (w : World) :
 Calls Tryz.prog 167 #[.string s, .string ⟨#[c]⟩] w fun e w' => e = .returned (.bool (decide (0 ≤ Lib.indexByte s.data.toList c))) ∧ w' = w := Any.strings_Contains_one Tryz.lays144 s c w
open Go.RowKit Go.Lib in
theorem Tryz.strings_Contains (s sub : ByteArray) (m : Int) (w : World) (hs : s.size < 4294967281) (hm : w.cell? ⟨0, 0, none⟩ = some (.int .i64 m)) :
 Calls Tryz.prog 167 #[.string s, .string sub] w fun e w' => e = .returned (.bool (Lib.contains s.data.toList sub.data.toList)) ∧ w' = w := Any.strings_Contains Tryz.lays144 s sub m w hs hm
def Tryz.lays206_ren : Go.Shelf.Ren := ⟨fun | 206 => 185 | n => n, fun | 9 => 9 | 4 => 4 | 3 => 3 | n => n, fun | n => n⟩
def Tryz.lays99_ren : Go.Shelf.Ren := ⟨fun | 99 => 124 | 206 => 185 | n => n, fun | 9 => 9 | 4 => 4 | 3 => 3 | n => n, fun | n => n⟩
theorem Tryz.lays99 : Go.Proofs.Lays.n99 Tryz.prog Tryz.lays99_ren := {
 mixed := by kernel_rfl
 f99 := Tryz.func124.trans (congrArg some (by kernel_rfl))
 f206 := Tryz.func185.trans (congrArg some (by kernel_rfl))
 t3 := Tryz.underlying3
 a3 := Tryz.isAgg3
 z3 := Tryz.sizeOf3
 v3 := Tryz.zeroValue3
 t4 := Tryz.underlying4
 a4 := Tryz.isAgg4
 z4 := Tryz.sizeOf4
 v4 := Tryz.zeroValue4
 t9 := Tryz.underlying9
 a9 := Tryz.isAgg9
 z9 := Tryz.sizeOf9
 v9 := Tryz.zeroValue9 }
open Go.RowKit Go.Lib in
theorem Tryz.strings_HasPrefix (s p : ByteArray) (w : World) :
 Calls Tryz.prog 124 #[.string s, .string p] w fun e w' => e = .returned (.bool (Lib.hasPrefix s.data.toList p.data.toList)) ∧ w' = w := Any.strings_HasPrefix Tryz.lays99 s p w
def Tryz.lays157_ren : Go.Shelf.Ren := ⟨fun | 157 => 65 | 229 => 141 | 199 => 142 | 261 => 193 | 311 => 223 | 312 => 224 | n => n, fun | 9 => 9 | 31 => 52 | 3 => 3 | 5 => 5 | 4 => 4 | 119 => 173 | 0 => 0 | 40 => 175 | 152 => 200 | 21 => 21 | 154 => 202 | 51 => 203 | 141 => 205 | 196 => 235 | 193 => 232 | 198 => 238 | 49 => 236 | 194 => 233 | 201 => 241 | 226 => 260 | 46 => 199 | 227 => 261 | n => n, fun | 0 => 1 | 6 => 2 | n => n⟩
def Tryz.laysM157_ren : Go.Shelf.Ren := ⟨fun | 157 => 65 | 229 => 141 | 199 => 142 | 261 => 193 | 311 => 223 | 312 => 224 | n => n, fun | 9 => 9 | 31 => 52 | 3 => 3 | 5 => 5 | 4 => 4 | 119 => 173 | 0 => 0 | 40 => 175 | 152 => 200 | 21 => 21 | 154 => 202 | 51 => 203 | 141 => 205 | 196 => 235 | 193 => 232 | 198 => 238 | 49 => 236 | 194 => 233 | 201 => 241 | 226 => 260 | 46 => 199 | 227 => 261 | n => n, fun | 0 => 1 | 6 => 2 | n => n⟩
theorem Tryz.laysM157 : Go.Proofs.LaysM.n157 Tryz.prog Tryz.laysM157_ren := {
 mixed := by kernel_rfl
 f157 := Tryz.func65.trans (congrArg some (by kernel_rfl))
 f199 := Tryz.func142.trans (congrArg some (by kernel_rfl))
 f229 := Tryz.func141.trans (congrArg some (by kernel_rfl))
 f261 := Tryz.func193.trans (congrArg some (by kernel_rfl))
 f311 := Tryz.func223.trans (congrArg some (by kernel_rfl))
 f312 := Tryz.func224.trans (congrArg some (by kernel_rfl))
 t0 := Tryz.underlying0
 a0 := Tryz.isAgg0
 z0 := Tryz.sizeOf0
 v0 := Tryz.zeroValue0
 t3 := Tryz.underlying3
 a3 := Tryz.isAgg3
 z3 := Tryz.sizeOf3
 v3 := Tryz.zeroValue3
 t4 := Tryz.underlying4
 a4 := Tryz.isAgg4
 z4 := Tryz.sizeOf4
 v4 := Tryz.zeroValue4
 t5 := Tryz.underlying5
 a5 := Tryz.isAgg5
 z5 := Tryz.sizeOf5
 v5 := Tryz.zeroValue5
 t9 := Tryz.underlying9
 a9 := Tryz.isAgg9
 z9 := Tryz.sizeOf9
 v9 := Tryz.zeroValue9
 t21 := Tryz.underlying21
 a21 := Tryz.isAgg21
 z21 := Tryz.sizeOf21
 v21 := Tryz.zeroValue21
 t31 := Tryz.underlying52
 a31 := Tryz.isAgg52
 z31 := Tryz.sizeOf52
 v31 := Tryz.zeroValue52
 t40 := Tryz.underlying175
 a40 := Tryz.isAgg175
 z40 := Tryz.sizeOf175
 v40 := Tryz.zeroValue175
 t46 := Tryz.underlying199
 a46 := Tryz.isAgg199
 z46 := Tryz.sizeOf199
 v46 := Tryz.zeroValue199
 t49 := Tryz.underlying236
 a49 := Tryz.isAgg236
 z49 := Tryz.sizeOf236
 v49 := Tryz.zeroValue236
 t51 := Tryz.underlying203
 a51 := Tryz.isAgg203
 z51 := Tryz.sizeOf203
 v51 := Tryz.zeroValue203
 t119 := Tryz.underlying173
 a119 := Tryz.isAgg173
 z119 := Tryz.sizeOf173
 t141 := Tryz.underlying205
 a141 := Tryz.isAgg205
 z141 := Tryz.sizeOf205
 v141 := Tryz.zeroValue205
 t152 := Tryz.underlying200
 a152 := Tryz.isAgg200
 z152 := Tryz.sizeOf200
 v152 := Tryz.zeroValue200
 t154 := Tryz.underlying202
 a154 := Tryz.isAgg202
 z154 := Tryz.sizeOf202
 v154 := Tryz.zeroValue202
 t193 := Tryz.underlying232
 a193 := Tryz.isAgg232
 z193 := Tryz.sizeOf232
 v193 := Tryz.zeroValue232
 t194 := Tryz.underlying233
 a194 := Tryz.isAgg233
 z194 := Tryz.sizeOf233
 v194 := Tryz.zeroValue233
 t196 := Tryz.underlying235
 a196 := Tryz.isAgg235
 z196 := Tryz.sizeOf235
 v196 := Tryz.zeroValue235
 t198 := Tryz.underlying238
 a198 := Tryz.isAgg238
 z198 := Tryz.sizeOf238
 v198 := Tryz.zeroValue238
 t201 := Tryz.underlying241
 a201 := Tryz.isAgg241
 z201 := Tryz.sizeOf241
 v201 := Tryz.zeroValue241
 t226 := Tryz.underlying260
 a226 := Tryz.isAgg260
 z226 := Tryz.sizeOf260
 v226 := Tryz.zeroValue260
 t227 := Tryz.underlying261
 a227 := Tryz.isAgg261
 z227 := Tryz.sizeOf261
 v227 := Tryz.zeroValue261
 g0 := by kernel_rfl
 g6 := by kernel_rfl
 i0 := by kernel_rfl
 i3 := by kernel_rfl
 i4 := by kernel_rfl
 i5 := by kernel_rfl
 i9 := by kernel_rfl
 i21 := by kernel_rfl
 i31 := by kernel_rfl
 i40 := by kernel_rfl
 i46 := by kernel_rfl
 i49 := by kernel_rfl
 i51 := by kernel_rfl
 i141 := by kernel_rfl
 i152 := by kernel_rfl
 i154 := by kernel_rfl
 i193 := by kernel_rfl
 i194 := by kernel_rfl
 i196 := by kernel_rfl
 i198 := by kernel_rfl
 i201 := by kernel_rfl
 i226 := by kernel_rfl
 i227 := by kernel_rfl
 m0 := by kernel_rfl
 m6 := by kernel_rfl }
open Go.RowKit Go.Lib in
theorem Tryz.strings_Fields_laid (s : ByteArray) (w : World) (hs : s.size < 4294967281) (hascii : ∀ (j : Nat) b, s.data.toList[j]? = some b → b.toNat < 128) (htab : Lib.TabIs Tryz.prog w "strings.asciiSpace" .u8 Lib.asciiSpaceTab) :
 Calls Tryz.prog 65 #[.string s] w fun e w' =>
  e = .returned (.slice (some ⟨w.heap.size, 0, none⟩) (Lib.fields s.data.toList).length (Lib.fields s.data.toList).length) ∧ w' = w.alloc (.cells ((Lib.fields s.data.toList).map fun l => Value.string ⟨l.toArray⟩).toArray 9) := Any.strings_Fields_laid Tryz.laysM157 s w hs hascii htab
end Go.Proofs
