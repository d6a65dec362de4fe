/- Part. -/
import Derived.Shelf.Strings.OnBuilder
import Derived.Shelf.Small.Wraps
import Derived.Shelf.Strings.BuilderK
import Derived.Shelf.Strconv.Itoa1
import Derived.Shelf.LaysM
import Derived.Shelf.Strconv.Itoa2
import Derived.Shelf.Strconv.Itoa3
import Derived.Ground.MpProg
import Derived.Shelf.Pu.ParseUintPublic10
import Derived.Shelf.Strings.Cut
import Derived.Shelf.Strings.Split
import Derived.Shelf.Slices.Equal
import Derived.Ground.Names2Prog
import Derived.Shelf.Slices.Empties2
import Derived.Test.YtbiopedpceddeaaGreatDoorProg
import Derived.Test.YtbiopedpceddeaaGreatDoorQz09
import Derived.Lib.AppendIntMem
import Derived.Lib.Split
import Derived.Lib.SplitLaws
import Derived.Lib.ParseIntB
set_option linter.unusedVariables false
set_option linter.unusedSimpArgs false
set_option maxRecDepth 100000
set_option maxHeartbeats 16000000
section
open Go.Proofs.YtbiopedpceddeaaGreatDoor (tk rd tc gA kH)
namespace Go.Proofs
open Go.Shelf
def Tryz.lays169_ren : Go.Shelf.Ren := ⟨fun | 169 => 144 | n => n, fun | 70 => 195 | 9 => 9 | 0 => 0 | 72 => 197 | 37 => 117 | 127 => 233 | 3 => 3 | 5 => 5 | n => n, fun | n => n⟩
theorem Tryz.lays169 : Go.Proofs.Lays.n169 Tryz.prog Tryz.lays169_ren := {
 mixed := by kernel_rfl
 f169 := tc Tryz.func144
 t0 := Tryz.underlying0
 a0 := Tryz.isAgg0
 z0 := Tryz.sizeOf0
 v0 := Tryz.zeroValue0
 t3 := Tryz.underlying3
 a3 := Tryz.isAgg3
 z3 := Tryz.sizeOf3
 v3 := Tryz.zeroValue3
 t9 := Tryz.underlying9
 a9 := Tryz.isAgg9
 z9 := Tryz.sizeOf9
 v9 := Tryz.zeroValue9
 t37 := Tryz.underlying117
 a37 := Tryz.isAgg117
 z37 := Tryz.sizeOf117
 v37 := Tryz.zeroValue117
 t70 := Tryz.underlying195
 a70 := Tryz.isAgg195
 z70 := Tryz.sizeOf195
 v70 := Tryz.zeroValue195
 t72 := Tryz.underlying197
 a72 := Tryz.isAgg197
 z72 := Tryz.sizeOf197
 v72 := Tryz.zeroValue197
 t127 := Tryz.underlying233
 a127 := Tryz.isAgg233
 z127 := Tryz.sizeOf233
 v127 := Tryz.zeroValue233 }
theorem Tryz.Builder_Extra_169 : Builder.Extra Tryz.prog Tryz.lays169_ren := {
 sizeBuilder := by kernel_rfl
 liesBuilder := by kernel_rfl
 t5 := Tryz.underlying5
 a5 := Tryz.isAgg5
 z5 := Tryz.sizeOf5
 v5 := Tryz.zeroValue5
 infoByte := by kernel_rfl
 cellsByte := by kernel_rfl
 sizeByte := by kernel_rfl
 neB5 := by decide }
def Tryz.lays156_ren : Go.Shelf.Ren := ⟨fun | 156 => 127 | 165 => 167 | 166 => 143 | 169 => 144 | 240 => 184 | 241 => 227 | 276 => 243 | 277 => 248 | n => n, fun | 31 => 106 | 9 => 9 | 3 => 3 | 4 => 4 | 0 => 0 | 20 => 20 | 72 => 197 | 76 => 200 | 70 => 195 | 37 => 117 | 75 => 199 | 127 => 233 | 164 => 262 | 5 => 5 | 80 => 120 | n => n, fun | n => n⟩
theorem Tryz.lays156 : Go.Proofs.Lays.n156 Tryz.prog Tryz.lays156_ren := {
 mixed := by kernel_rfl
 f156 := tc Tryz.func127
 f165 := tc Tryz.func167
 f166 := tc Tryz.func143
 f169 := tc Tryz.func144
 f240 := tc Tryz.func184
 f241 := tc Tryz.func227
 f276 := tc Tryz.func243
 f277 := tc Tryz.func248
 t0 := Tryz.underlying0
 a0 := Tryz.isAgg0
 z0 := Tryz.sizeOf0
 v0 := Tryz.zeroValue0
 t3 := Tryz.underlying3
 a3 := Tryz.isAgg3
 z3 := Tryz.sizeOf3
 v3 := Tryz.zeroValue3
 t4 := Tryz.underlying4
 a4 := Tryz.isAgg4
 z4 := Tryz.sizeOf4
 v4 := Tryz.zeroValue4
 t9 := Tryz.underlying9
 a9 := Tryz.isAgg9
 z9 := Tryz.sizeOf9
 v9 := Tryz.zeroValue9
 t20 := Tryz.underlying20
 a20 := Tryz.isAgg20
 z20 := Tryz.sizeOf20
 v20 := Tryz.zeroValue20
 t31 := Tryz.underlying106
 a31 := Tryz.isAgg106
 z31 := Tryz.sizeOf106
 v31 := Tryz.zeroValue106
 t37 := Tryz.underlying117
 a37 := Tryz.isAgg117
 z37 := Tryz.sizeOf117
 v37 := Tryz.zeroValue117
 t70 := Tryz.underlying195
 a70 := Tryz.isAgg195
 z70 := Tryz.sizeOf195
 v70 := Tryz.zeroValue195
 t72 := Tryz.underlying197
 a72 := Tryz.isAgg197
 z72 := Tryz.sizeOf197
 v72 := Tryz.zeroValue197
 t75 := Tryz.underlying199
 a75 := Tryz.isAgg199
 z75 := Tryz.sizeOf199
 v75 := Tryz.zeroValue199
 t76 := Tryz.underlying200
 a76 := Tryz.isAgg200
 z76 := Tryz.sizeOf200
 v76 := Tryz.zeroValue200
 t127 := Tryz.underlying233
 a127 := Tryz.isAgg233
 z127 := Tryz.sizeOf233
 v127 := Tryz.zeroValue233
 t164 := Tryz.underlying262
 a164 := Tryz.isAgg262
 z164 := Tryz.sizeOf262
 v164 := Tryz.zeroValue262 }
theorem Tryz.Builder_Extra_156 : Builder.Extra Tryz.prog Tryz.lays156_ren := {
 sizeBuilder := by kernel_rfl
 liesBuilder := by kernel_rfl
 t5 := Tryz.underlying5
 a5 := Tryz.isAgg5
 z5 := Tryz.sizeOf5
 v5 := Tryz.zeroValue5
 infoByte := by kernel_rfl
 cellsByte := by kernel_rfl
 sizeByte := by kernel_rfl
 neB5 := by decide }
open Go.RowKit in
open Go.RowKit in
theorem Tryz.strings_Join (bk o c : Nat) (xs : List ByteArray) (sep : ByteArray) (w : World) (hcells : ∀ (j : Nat) x, xs[j]? = some x → w.cell? ⟨bk, o + j, none⟩ = some (.string x)) (hbk : bk < w.heap.size) (hN : xs.length ≤ 140737488355328) (hcap : xs.length ≤ c) (hlen : (Lib.join (xs.map (·.data.toList)) sep.data.toList).length ≤ 140737488355328) :
 Calls Tryz.prog 127 #[.slice (some ⟨bk, o, none⟩) xs.length c, .string sep] w fun e w' => e = .returned (.string ⟨(Lib.join (xs.map (·.data.toList)) sep.data.toList).toArray⟩) ∧ Below w.heap.size w w' := Any.strings_Join Tryz.lays156 Tryz.Builder_Extra_156 bk o c xs sep w hcells hbk hN hcap hlen
def Tryz.lays122_ren : Go.Shelf.Ren := ⟨fun | 122 => 130 | 215 => 178 | n => n, fun | 3 => 3 | 4 => 4 | n => n, fun | n => n⟩
theorem Tryz.lays122 : Go.Proofs.Lays.n122 Tryz.prog Tryz.lays122_ren := {
 mixed := by kernel_rfl
 f122 := tc Tryz.func130
 f215 := tc Tryz.func178
 t3 := Tryz.underlying3
 a3 := Tryz.isAgg3
 z3 := Tryz.sizeOf3
 v3 := Tryz.zeroValue3
 t4 := Tryz.underlying4
 a4 := Tryz.isAgg4
 z4 := Tryz.sizeOf4
 v4 := Tryz.zeroValue4 }
open Go.RowKit in
theorem Tryz.cmp_Compare_int (x y : Int) (w : World) :
 Calls Tryz.prog 130 #[.int .i64 x, .int .i64 y] w fun e w' => e = .returned (.int .i64 (Lib.compareInt x y)) ∧ w' = w := Any.cmp_Compare_int Tryz.lays122 x y w
open Go.RowKit in
theorem Tryz.Builder_String_any_k (B b : Nat) (l : List UInt8) (w : World) (h : Lib.IsBuilderF 197 5 B b (Lib.byteCells l) w) (hBw : B ≤ w.heap.size) :
 Calls Tryz.prog 144 #[.pointer (some ⟨b, 0, none⟩)] w fun e w' => e = .returned (.string ⟨l.toArray⟩) ∧ (Lib.IsBuilderF 197 5 B b (Lib.byteCells l) w' ∧ Below B w w' ∧ Lib.OthersKept 5 (some b) w w') := Any.Builder_String_any_k Tryz.lays169 Tryz.Builder_Extra_169 B b l w h hBw
def Tryz.lays283_ren : Go.Shelf.Ren := ⟨fun | 283 => 233 | n => n, fun | 3 => 3 | 9 => 9 | 4 => 4 | n => n, fun | n => n⟩
theorem Tryz.lays283 : Go.Proofs.Lays.n283 Tryz.prog Tryz.lays283_ren := {
 mixed := by kernel_rfl
 f283 := tc Tryz.func233
 t3 := Tryz.underlying3
 a3 := Tryz.isAgg3
 z3 := Tryz.sizeOf3
 v3 := Tryz.zeroValue3
 t4 := Tryz.underlying4
 a4 := Tryz.isAgg4
 z4 := Tryz.sizeOf4
 v4 := Tryz.zeroValue4
 t9 := Tryz.underlying9
 a9 := Tryz.isAgg9
 z9 := Tryz.sizeOf9
 v9 := Tryz.zeroValue9 }
open Go.Lib in
theorem Tryz.internal_strconv_small (i : Nat) (h : i < 100) (w : World) :
 Calls Tryz.prog 233 #[.int .i64 i] w fun e w' => e = .returned (.string ⟨(Lib.decDigits i).toArray⟩) ∧ w' = w := Any.internal_strconv_small Tryz.lays283 i h w
def Tryz.laysM284_ren : Go.Shelf.Ren := ⟨fun | 284 => 234 | 129 => 177 | 317 => 250 | 318 => 251 | n => n, fun | 53 => 188 | 3 => 3 | 212 => 271 | 0 => 0 | 4 => 4 | 46 => 56 | 5 => 5 | 9 => 9 | n => n, fun | 17 => 1 | n => n⟩
theorem Tryz.laysM284 : Go.Proofs.LaysM.n284 Tryz.prog Tryz.laysM284_ren := {
 mixed := by kernel_rfl
 f129 := tc Tryz.func177
 f284 := tc Tryz.func234
 f317 := tc Tryz.func250
 f318 := tc Tryz.func251
 t0 := Tryz.underlying0
 a0 := Tryz.isAgg0
 z0 := Tryz.sizeOf0
 v0 := Tryz.zeroValue0
 t3 := Tryz.underlying3
 a3 := Tryz.isAgg3
 z3 := Tryz.sizeOf3
 v3 := Tryz.zeroValue3
 t4 := Tryz.underlying4
 a4 := Tryz.isAgg4
 z4 := Tryz.sizeOf4
 v4 := Tryz.zeroValue4
 t5 := Tryz.underlying5
 a5 := Tryz.isAgg5
 z5 := Tryz.sizeOf5
 v5 := Tryz.zeroValue5
 t9 := Tryz.underlying9
 a9 := Tryz.isAgg9
 z9 := Tryz.sizeOf9
 v9 := Tryz.zeroValue9
 t46 := Tryz.underlying56
 a46 := Tryz.isAgg56
 z46 := Tryz.sizeOf56
 v46 := Tryz.zeroValue56
 t53 := Tryz.underlying188
 a53 := Tryz.isAgg188
 z53 := Tryz.sizeOf188
 v53 := Tryz.zeroValue188
 t212 := Tryz.underlying271
 a212 := Tryz.isAgg271
 z212 := Tryz.sizeOf271
 v212 := Tryz.zeroValue271
 g17 := by kernel_rfl
 i0 := by kernel_rfl
 i3 := by kernel_rfl
 i4 := by kernel_rfl
 i5 := by kernel_rfl
 i9 := by kernel_rfl
 i46 := by kernel_rfl
 i53 := by kernel_rfl
 i212 := by kernel_rfl
 m17 := by kernel_rfl }
open Go.Lib in
theorem Tryz.internal_strconv_numDigits (u : Nat) (h1 : 1 ≤ u) (h2 : u < 18446744073709551616) (w : World) (htab : Lib.TabIs Tryz.prog w "internal/strconv.uint64pow10" .u64 Lib.pow10Tab) :
 Calls Tryz.prog 234 #[.int .u64 u] w fun e w' => e = .returned (.int .i64 (Lib.nDigits u)) ∧ w' = w := Any.internal_strconv_numDigits Tryz.laysM284 u h1 h2 w htab
def Tryz.lays285_ren : Go.Shelf.Ren := ⟨fun | 285 => 235 | n => n, fun | 37 => 117 | 53 => 188 | 3 => 3 | 4 => 4 | 51 => 26 | 9 => 9 | 5 => 5 | 0 => 0 | n => n, fun | n => n⟩
theorem Tryz.lays285 : Go.Proofs.Lays.n285 Tryz.prog Tryz.lays285_ren := {
 mixed := by kernel_rfl
 f285 := tc Tryz.func235
 t0 := Tryz.underlying0
 a0 := Tryz.isAgg0
 z0 := Tryz.sizeOf0
 v0 := Tryz.zeroValue0
 t3 := Tryz.underlying3
 a3 := Tryz.isAgg3
 z3 := Tryz.sizeOf3
 v3 := Tryz.zeroValue3
 t4 := Tryz.underlying4
 a4 := Tryz.isAgg4
 z4 := Tryz.sizeOf4
 v4 := Tryz.zeroValue4
 t5 := Tryz.underlying5
 a5 := Tryz.isAgg5
 z5 := Tryz.sizeOf5
 v5 := Tryz.zeroValue5
 t9 := Tryz.underlying9
 a9 := Tryz.isAgg9
 z9 := Tryz.sizeOf9
 v9 := Tryz.zeroValue9
 t37 := Tryz.underlying117
 a37 := Tryz.isAgg117
 z37 := Tryz.sizeOf117
 v37 := Tryz.zeroValue117
 t51 := Tryz.underlying26
 a51 := Tryz.isAgg26
 z51 := Tryz.sizeOf26
 v51 := Tryz.zeroValue26
 t53 := Tryz.underlying188
 a53 := Tryz.isAgg188
 z53 := Tryz.sizeOf188
 v53 := Tryz.zeroValue188 }
open Go.RowKit Go.Sort Go.Lib in
theorem Tryz.internal_strconv_formatBase10 (blk off cap : Nat) (u : Nat) (d : Array UInt8) (w : World) (hH : Holds (fun (b : UInt8) => Value.int .u8 (b.toNat : Int)) w blk off d) (hu : u < 10 ^ d.size) (hu64 : u < 18446744073709551616) (hsz : d.size < 4611686018427387904) :
 Calls Tryz.prog 235 #[.slice (some ⟨blk, off, none⟩) d.size cap, .int .u64 u] w fun e w' =>
  e = .returned (.tuple #[]) ∧ ∃ (n v' : Nat) (dk : Array UInt8), w' = (putRow (fun (b : UInt8) => Value.int .u8 (b.toNat : Int)) w blk off dk).drewN n ∧ FmtInv d.size u 0 v' dk := Any.internal_strconv_formatBase10 Tryz.lays285 blk off cap u d w hH hu hu64 hsz
def Tryz.laysM171_ren : Go.Shelf.Ren := ⟨fun | 171 => 86 | 243 => 147 | 246 => 186 | 283 => 233 | 284 => 234 | 285 => 235 | 286 => 236 | 129 => 177 | 317 => 250 | 318 => 251 | 319 => 252 | 320 => 253 | 337 => 191 | 338 => 265 | n => n, fun | 3 => 3 | 9 => 9 | 2 => 2 | 4 => 4 | 171 => 254 | 0 => 0 | 53 => 188 | 37 => 117 | 5 => 5 | 173 => 256 | 212 => 271 | 51 => 26 | 20 => 20 | 213 => 272 | 46 => 56 | 232 => 264 | 233 => 288 | n => n, fun | 17 => 1 | 18 => 0 | 19 => 7 | n => n⟩
theorem Tryz.laysM171 : Go.Proofs.LaysM.n171 Tryz.prog Tryz.laysM171_ren := {
 mixed := by kernel_rfl
 f129 := tc Tryz.func177
 f171 := tc Tryz.func86
 f243 := tc Tryz.func147
 f246 := tc Tryz.func186
 f283 := tc Tryz.func233
 f284 := tc Tryz.func234
 f285 := tc Tryz.func235
 f286 := tc Tryz.func236
 f317 := tc Tryz.func250
 f318 := tc Tryz.func251
 f319 := tc Tryz.func252
 f320 := tc Tryz.func253
 f337 := tc Tryz.func191
 f338 := tc Tryz.func265
 t0 := Tryz.underlying0
 a0 := Tryz.isAgg0
 z0 := Tryz.sizeOf0
 v0 := Tryz.zeroValue0
 t2 := Tryz.underlying2
 a2 := Tryz.isAgg2
 z2 := Tryz.sizeOf2
 v2 := Tryz.zeroValue2
 t3 := Tryz.underlying3
 a3 := Tryz.isAgg3
 z3 := Tryz.sizeOf3
 v3 := Tryz.zeroValue3
 t4 := Tryz.underlying4
 a4 := Tryz.isAgg4
 z4 := Tryz.sizeOf4
 v4 := Tryz.zeroValue4
 t5 := Tryz.underlying5
 a5 := Tryz.isAgg5
 z5 := Tryz.sizeOf5
 v5 := Tryz.zeroValue5
 t9 := Tryz.underlying9
 a9 := Tryz.isAgg9
 z9 := Tryz.sizeOf9
 v9 := Tryz.zeroValue9
 t20 := Tryz.underlying20
 a20 := Tryz.isAgg20
 z20 := Tryz.sizeOf20
 v20 := Tryz.zeroValue20
 t37 := Tryz.underlying117
 a37 := Tryz.isAgg117
 z37 := Tryz.sizeOf117
 v37 := Tryz.zeroValue117
 t46 := Tryz.underlying56
 a46 := Tryz.isAgg56
 z46 := Tryz.sizeOf56
 v46 := Tryz.zeroValue56
 t51 := Tryz.underlying26
 a51 := Tryz.isAgg26
 z51 := Tryz.sizeOf26
 v51 := Tryz.zeroValue26
 t53 := Tryz.underlying188
 a53 := Tryz.isAgg188
 z53 := Tryz.sizeOf188
 v53 := Tryz.zeroValue188
 t171 := Tryz.underlying254
 a171 := Tryz.isAgg254
 z171 := Tryz.sizeOf254
 v171 := Tryz.zeroValue254
 t173 := Tryz.underlying256
 a173 := Tryz.isAgg256
 z173 := Tryz.sizeOf256
 v173 := Tryz.zeroValue256
 t212 := Tryz.underlying271
 a212 := Tryz.isAgg271
 z212 := Tryz.sizeOf271
 v212 := Tryz.zeroValue271
 t213 := Tryz.underlying272
 a213 := Tryz.isAgg272
 z213 := Tryz.sizeOf272
 t232 := Tryz.underlying264
 a232 := Tryz.isAgg264
 z232 := Tryz.sizeOf264
 v232 := Tryz.zeroValue264
 t233 := Tryz.underlying288
 a233 := Tryz.isAgg288
 z233 := Tryz.sizeOf288
 v233 := Tryz.zeroValue288
 g17 := by kernel_rfl
 g18 := by kernel_rfl
 g19 := by kernel_rfl
 i0 := by kernel_rfl
 i2 := by kernel_rfl
 i3 := by kernel_rfl
 i4 := by kernel_rfl
 i5 := by kernel_rfl
 i9 := by kernel_rfl
 i20 := by kernel_rfl
 i37 := by kernel_rfl
 i46 := by kernel_rfl
 i51 := by kernel_rfl
 i53 := by kernel_rfl
 i171 := by kernel_rfl
 i173 := by kernel_rfl
 i212 := by kernel_rfl
 i232 := by kernel_rfl
 i233 := by kernel_rfl
 m17 := by kernel_rfl
 m18 := by kernel_rfl
 m19 := by kernel_rfl }
open Go.RowKit Go.Sort Go.Lib in
theorem Tryz.strconv_Itoa (n : Int) (h0 : -9223372036854775808 ≤ n) (h1 : n ≤ 9223372036854775807) (w : World) (htab : Lib.TabIs Tryz.prog w "internal/strconv.uint64pow10" .u64 Lib.pow10Tab) :
 Calls Tryz.prog 86 #[.int .i64 n] w fun e w' => e = .returned (.string ⟨(Lib.itoa n).toArray⟩) ∧ ∃ k os, w' = grow (w.drewN k) os := Any.strconv_Itoa Tryz.laysM171 n h0 h1 w htab
open Go.RowKit Go.Sort Go.Lib in
def Tryz.laysPu14_ren : Go.Shelf.Ren := ⟨fun | 14 => 183 | 16 => 241 | 17 => 242 | 19 => 259 | 20 => 260 | 21 => 261 | 22 => 262 | 23 => 263 | 24 => 264 | 25 => 268 | 27 => 86 | 26 => 269 | 28 => 147 | 29 => 186 | 30 => 233 | 31 => 234 | 32 => 235 | 33 => 236 | 35 => 177 | 34 => 250 | 36 => 251 | 37 => 252 | 38 => 253 | 39 => 191 | 40 => 265 | n => n, fun | 9 => 9 | 3 => 3 | 22 => 188 | 24 => 199 | 25 => 231 | 4 => 4 | 34 => 273 | 5 => 5 | 36 => 56 | 37 => 117 | 0 => 0 | 39 => 275 | 21 => 21 | 44 => 286 | 47 => 233 | 50 => 291 | 48 => 289 | 2 => 2 | 52 => 254 | 55 => 256 | 59 => 271 | 60 => 26 | 20 => 20 | 61 => 272 | 65 => 264 | 66 => 288 | 67 => 120 | n => n, fun | 0 => 5 | 1 => 6 | 2 => 1 | 3 => 0 | 4 => 7 | n => n⟩
theorem Tryz.laysPu14 : Go.Proofs.LaysPu.n14 Tryz.prog Tryz.laysPu14_ren := {
 mixed := by kernel_rfl
 f14 := tc Tryz.func183
 f16 := tc Tryz.func241
 f17 := tc Tryz.func242
 f19 := tc Tryz.func259
 f20 := tc Tryz.func260
 f21 := tc Tryz.func261
 f22 := tc Tryz.func262
 f23 := tc Tryz.func263
 f24 := tc Tryz.func264
 f25 := tc Tryz.func268
 f26 := tc Tryz.func269
 f27 := tc Tryz.func86
 f28 := tc Tryz.func147
 f29 := tc Tryz.func186
 f30 := tc Tryz.func233
 f31 := tc Tryz.func234
 f32 := tc Tryz.func235
 f33 := tc Tryz.func236
 f34 := tc Tryz.func250
 f35 := tc Tryz.func177
 f36 := tc Tryz.func251
 f37 := tc Tryz.func252
 f38 := tc Tryz.func253
 f39 := tc Tryz.func191
 f40 := tc Tryz.func265
 t0 := Tryz.underlying0
 a0 := Tryz.isAgg0
 z0 := Tryz.sizeOf0
 v0 := Tryz.zeroValue0
 i0 := by kernel_rfl
 t2 := Tryz.underlying2
 a2 := Tryz.isAgg2
 z2 := Tryz.sizeOf2
 v2 := Tryz.zeroValue2
 i2 := by kernel_rfl
 t3 := Tryz.underlying3
 a3 := Tryz.isAgg3
 z3 := Tryz.sizeOf3
 v3 := Tryz.zeroValue3
 i3 := by kernel_rfl
 t4 := Tryz.underlying4
 a4 := Tryz.isAgg4
 z4 := Tryz.sizeOf4
 v4 := Tryz.zeroValue4
 i4 := by kernel_rfl
 t5 := Tryz.underlying5
 a5 := Tryz.isAgg5
 z5 := Tryz.sizeOf5
 v5 := Tryz.zeroValue5
 i5 := by kernel_rfl
 t9 := Tryz.underlying9
 a9 := Tryz.isAgg9
 z9 := Tryz.sizeOf9
 v9 := Tryz.zeroValue9
 i9 := by kernel_rfl
 t20 := Tryz.underlying20
 a20 := Tryz.isAgg20
 z20 := Tryz.sizeOf20
 v20 := Tryz.zeroValue20
 i20 := by kernel_rfl
 t21 := Tryz.underlying21
 a21 := Tryz.isAgg21
 z21 := Tryz.sizeOf21
 v21 := Tryz.zeroValue21
 i21 := by kernel_rfl
 t22 := Tryz.underlying188
 a22 := Tryz.isAgg188
 z22 := Tryz.sizeOf188
 v22 := Tryz.zeroValue188
 i22 := by kernel_rfl
 t24 := Tryz.underlying199
 a24 := Tryz.isAgg199
 z24 := Tryz.sizeOf199
 v24 := Tryz.zeroValue199
 i24 := by kernel_rfl
 t25 := Tryz.underlying231
 a25 := Tryz.isAgg231
 z25 := Tryz.sizeOf231
 v25 := Tryz.zeroValue231
 i25 := by kernel_rfl
 t34 := Tryz.underlying273
 a34 := Tryz.isAgg273
 z34 := Tryz.sizeOf273
 v34 := Tryz.zeroValue273
 i34 := by kernel_rfl
 c34 := by kernel_rfl
 t36 := Tryz.underlying56
 a36 := Tryz.isAgg56
 z36 := Tryz.sizeOf56
 v36 := Tryz.zeroValue56
 i36 := by kernel_rfl
 t37 := Tryz.underlying117
 a37 := Tryz.isAgg117
 z37 := Tryz.sizeOf117
 v37 := Tryz.zeroValue117
 i37 := by kernel_rfl
 t39 := Tryz.underlying275
 a39 := Tryz.isAgg275
 z39 := Tryz.sizeOf275
 v39 := Tryz.zeroValue275
 i39 := by kernel_rfl
 t44 := Tryz.underlying286
 a44 := Tryz.isAgg286
 z44 := Tryz.sizeOf286
 v44 := Tryz.zeroValue286
 i44 := by kernel_rfl
 t47 := Tryz.underlying233
 a47 := Tryz.isAgg233
 z47 := Tryz.sizeOf233
 v47 := Tryz.zeroValue233
 i47 := by kernel_rfl
 t48 := Tryz.underlying289
 a48 := Tryz.isAgg289
 z48 := Tryz.sizeOf289
 v48 := Tryz.zeroValue289
 i48 := by kernel_rfl
 t50 := Tryz.underlying291
 a50 := Tryz.isAgg291
 z50 := Tryz.sizeOf291
 v50 := Tryz.zeroValue291
 i50 := by kernel_rfl
 t52 := Tryz.underlying254
 a52 := Tryz.isAgg254
 z52 := Tryz.sizeOf254
 v52 := Tryz.zeroValue254
 i52 := by kernel_rfl
 t55 := Tryz.underlying256
 a55 := Tryz.isAgg256
 z55 := Tryz.sizeOf256
 v55 := Tryz.zeroValue256
 i55 := by kernel_rfl
 t59 := Tryz.underlying271
 a59 := Tryz.isAgg271
 z59 := Tryz.sizeOf271
 v59 := Tryz.zeroValue271
 i59 := by kernel_rfl
 t60 := Tryz.underlying26
 a60 := Tryz.isAgg26
 z60 := Tryz.sizeOf26
 v60 := Tryz.zeroValue26
 i60 := by kernel_rfl
 t61 := Tryz.underlying272
 a61 := Tryz.isAgg272
 z61 := Tryz.sizeOf272
 t65 := Tryz.underlying264
 a65 := Tryz.isAgg264
 z65 := Tryz.sizeOf264
 v65 := Tryz.zeroValue264
 i65 := by kernel_rfl
 t66 := Tryz.underlying288
 a66 := Tryz.isAgg288
 z66 := Tryz.sizeOf288
 v66 := Tryz.zeroValue288
 i66 := by kernel_rfl
 t67 := Tryz.underlying120
 a67 := Tryz.isAgg120
 z67 := Tryz.sizeOf120
 v67 := Tryz.zeroValue120
 i67 := by kernel_rfl
 g0 := by kernel_rfl
 m0 := by kernel_rfl
 g1 := by kernel_rfl
 m1 := by kernel_rfl
 g2 := by kernel_rfl
 m2 := by kernel_rfl
 g3 := by kernel_rfl
 m3 := by kernel_rfl
 g4 := by kernel_rfl
 m4 := by kernel_rfl }
open Go.RowKit in
theorem Tryz.strconv_ParseUint_10_at32_ok (s : ByteArray) (hmax : s.size ≤ 9223372036854775806) (u : Nat) (h : Lib.parseUintB 32 s.data.toList = .ok u) (w : World) :
 Calls Tryz.prog 183 #[.string s, .int .i64 10, .int .i64 32] w fun e w' => e = .returned (.tuple #[.int .u64 u, .nilIface]) ∧ (w' = w ∨ w' = Lib.bytesWorld w 5 s) := Any.strconv_ParseUint_10_at32_ok Tryz.laysPu14 s hmax u h w
open Go.RowKit in
theorem Tryz.strconv_ParseUint_10_at32_syntax (s : ByteArray) (hlim : s.size ≤ 281474976710656) (h : Lib.parseUintB 32 s.data.toList = Lib.parseUintB 32 []) (ev : Value) (w : World) (hv : w.cell? ⟨5, 0, none⟩ = some ev) (hev : ev = .nilIface ∨ ∃ te pe, ev = .iface te pe) :
 Calls Tryz.prog 183 #[.string s, .int .i64 10, .int .i64 32] w fun e w' => ∃ N, e = .returned (.tuple #[.int .u64 0, .iface 275 (.pointer (some ⟨N, 0, none⟩))]) ∧ w.heap.size ≤ N ∧ w'.heap[N]? = some (.cells #[.string ⟨#[80, 97, 114, 115, 101, 85, 105, 110, 116]⟩, .string s, ev] 286 (0, 0)) ∧ Below w.heap.size w w' := Any.strconv_ParseUint_10_at32_syntax Tryz.laysPu14 s hlim (h.trans (by rfl)) ev w hv hev
open Go.RowKit in
theorem Tryz.strconv_ParseUint_10_at32_range (s : ByteArray) (hlim : s.size ≤ 281474976710656) (h : Lib.parseUintB 32 s.data.toList = .range) (ev : Value) (w : World) (hv : w.cell? ⟨6, 0, none⟩ = some ev) (hev : ev = .nilIface ∨ ∃ te pe, ev = .iface te pe) :
 Calls Tryz.prog 183 #[.string s, .int .i64 10, .int .i64 32] w fun e w' => ∃ N, e = .returned (.tuple #[.int .u64 4294967295, .iface 275 (.pointer (some ⟨N, 0, none⟩))]) ∧ w.heap.size ≤ N ∧ w'.heap[N]? = some (.cells #[.string ⟨#[80, 97, 114, 115, 101, 85, 105, 110, 116]⟩, .string s, ev] 286 (0, 0)) ∧ Below w.heap.size w w' := Any.strconv_ParseUint_10_at32_range Tryz.laysPu14 s hlim h ev w hv hev
def Tryz.lays145_ren : Go.Shelf.Ren := ⟨fun | 145 => 146 | 220 => 185 | 219 => 240 | 217 => 255 | 225 => 256 | 224 => 257 | 267 => 258 | 266 => 266 | 314 => 267 | n => n, fun | 9 => 9 | 4 => 4 | 59 => 202 | 3 => 3 | 5 => 5 | 46 => 56 | 146 => 282 | 51 => 26 | n => n, fun | 1 => 2 | n => n⟩
theorem Tryz.lays145 : Go.Proofs.Lays.n145 Tryz.prog Tryz.lays145_ren := {
 mixed := by kernel_rfl
 f145 := tc Tryz.func146
 f217 := tc Tryz.func255
 f219 := tc Tryz.func240
 f220 := tc Tryz.func185
 f224 := tc Tryz.func257
 f225 := tc Tryz.func256
 f266 := tc Tryz.func266
 f267 := tc Tryz.func258
 f314 := tc Tryz.func267
 t3 := Tryz.underlying3
 a3 := Tryz.isAgg3
 z3 := Tryz.sizeOf3
 v3 := Tryz.zeroValue3
 t4 := Tryz.underlying4
 a4 := Tryz.isAgg4
 z4 := Tryz.sizeOf4
 v4 := Tryz.zeroValue4
 t5 := Tryz.underlying5
 a5 := Tryz.isAgg5
 z5 := Tryz.sizeOf5
 v5 := Tryz.zeroValue5
 t9 := Tryz.underlying9
 a9 := Tryz.isAgg9
 z9 := Tryz.sizeOf9
 v9 := Tryz.zeroValue9
 t46 := Tryz.underlying56
 a46 := Tryz.isAgg56
 z46 := Tryz.sizeOf56
 v46 := Tryz.zeroValue56
 t51 := Tryz.underlying26
 a51 := Tryz.isAgg26
 z51 := Tryz.sizeOf26
 v51 := Tryz.zeroValue26
 t59 := Tryz.underlying202
 a59 := Tryz.isAgg202
 z59 := Tryz.sizeOf202
 v59 := Tryz.zeroValue202
 t146 := Tryz.underlying282
 a146 := Tryz.isAgg282
 z146 := Tryz.sizeOf282
 v146 := Tryz.zeroValue282
 g1 := by kernel_rfl }
open Go.RowKit Go.Lib in
theorem Tryz.strings_Cut (s sep : ByteArray) (m : Int) (w : World) (hs : s.size < 4294967281) (hm : w.cell? ⟨2, 0, none⟩ = some (.int .i64 m)) :
 Calls Tryz.prog 146 #[.string s, .string sep] w fun e w' => e = .returned (.tuple #[.string ⟨(Lib.cut s.data.toList sep.data.toList).1.toArray⟩, .string ⟨(Lib.cut s.data.toList sep.data.toList).2.1.toArray⟩, .bool (Lib.cut s.data.toList sep.data.toList).2.2]) ∧ ∃ n, w' = w.drewN n := Any.strings_Cut Tryz.lays145 s sep m w hs hm
def Tryz.lays146_ren : Go.Shelf.Ren := ⟨fun | 146 => 75 | 221 => 136 | 268 => 180 | 138 => 181 | 143 => 182 | 195 => 237 | 197 => 238 | 218 => 239 | 219 => 240 | 260 => 254 | 217 => 255 | 225 => 256 | 224 => 257 | 267 => 258 | 266 => 266 | 314 => 267 | n => n, fun | 9 => 9 | 31 => 106 | 3 => 3 | 4 => 4 | 0 => 0 | 105 => 258 | 21 => 21 | 5 => 5 | 46 => 56 | 119 => 278 | 139 => 281 | 138 => 280 | 146 => 282 | 51 => 26 | n => n, fun | 1 => 2 | 3 => 3 | 4 => 4 | n => n⟩
theorem Tryz.lays146 : Go.Proofs.Lays.n146 Tryz.prog Tryz.lays146_ren := {
 mixed := by kernel_rfl
 f138 := tc Tryz.func181
 f143 := tc Tryz.func182
 f146 := tc Tryz.func75
 f195 := tc Tryz.func237
 f197 := tc Tryz.func238
 f217 := tc Tryz.func255
 f218 := tc Tryz.func239
 f219 := tc Tryz.func240
 f221 := tc Tryz.func136
 f224 := tc Tryz.func257
 f225 := tc Tryz.func256
 f260 := tc Tryz.func254
 f266 := tc Tryz.func266
 f267 := tc Tryz.func258
 f268 := tc Tryz.func180
 f314 := tc Tryz.func267
 t0 := Tryz.underlying0
 a0 := Tryz.isAgg0
 z0 := Tryz.sizeOf0
 v0 := Tryz.zeroValue0
 t3 := Tryz.underlying3
 a3 := Tryz.isAgg3
 z3 := Tryz.sizeOf3
 v3 := Tryz.zeroValue3
 t4 := Tryz.underlying4
 a4 := Tryz.isAgg4
 z4 := Tryz.sizeOf4
 v4 := Tryz.zeroValue4
 t5 := Tryz.underlying5
 a5 := Tryz.isAgg5
 z5 := Tryz.sizeOf5
 v5 := Tryz.zeroValue5
 t9 := Tryz.underlying9
 a9 := Tryz.isAgg9
 z9 := Tryz.sizeOf9
 v9 := Tryz.zeroValue9
 t21 := Tryz.underlying21
 a21 := Tryz.isAgg21
 z21 := Tryz.sizeOf21
 v21 := Tryz.zeroValue21
 t31 := Tryz.underlying106
 a31 := Tryz.isAgg106
 z31 := Tryz.sizeOf106
 v31 := Tryz.zeroValue106
 t46 := Tryz.underlying56
 a46 := Tryz.isAgg56
 z46 := Tryz.sizeOf56
 v46 := Tryz.zeroValue56
 t51 := Tryz.underlying26
 a51 := Tryz.isAgg26
 z51 := Tryz.sizeOf26
 v51 := Tryz.zeroValue26
 t105 := Tryz.underlying258
 a105 := Tryz.isAgg258
 z105 := Tryz.sizeOf258
 v105 := Tryz.zeroValue258
 t119 := Tryz.underlying278
 a119 := Tryz.isAgg278
 z119 := Tryz.sizeOf278
 t138 := Tryz.underlying280
 a138 := Tryz.isAgg280
 z138 := Tryz.sizeOf280
 v138 := Tryz.zeroValue280
 t139 := Tryz.underlying281
 a139 := Tryz.isAgg281
 z139 := Tryz.sizeOf281
 v139 := Tryz.zeroValue281
 t146 := Tryz.underlying282
 a146 := Tryz.isAgg282
 z146 := Tryz.sizeOf282
 v146 := Tryz.zeroValue282
 g1 := by kernel_rfl
 g3 := by kernel_rfl
 g4 := by kernel_rfl }
open Go.RowKit Go.Lib in
theorem Tryz.strings_Split (s sep : ByteArray) (m : Int) (w : World) (hs : s.size < 4294967281) (hm : w.cell? ⟨2, 0, none⟩ = some (.int .i64 m)) (h1 : 1 ≤ sep.size) :
 Calls Tryz.prog 75 #[.string s, .string sep] w fun e w' =>
  e = .returned (.slice (some ⟨w.heap.size, 0, none⟩) (Lib.countB s sep + 1) (Lib.countB s sep + 1)) ∧ w' = w.alloc (.cells ((Lib.splitB sep 0 (Lib.countB s sep) s).map Value.string).toArray 9) := Any.strings_Split Tryz.lays146 (by kernel_rfl) s sep m w hs hm h1
def Tryz.lays147_ren : Go.Shelf.Ren := ⟨fun | 147 => 138 | 221 => 136 | 268 => 180 | 138 => 181 | 143 => 182 | 195 => 237 | 197 => 238 | 218 => 239 | 219 => 240 | 260 => 254 | 217 => 255 | 225 => 256 | 224 => 257 | 267 => 258 | 266 => 266 | 314 => 267 | n => n, fun | 9 => 9 | 3 => 3 | 31 => 106 | 4 => 4 | 0 => 0 | 105 => 258 | 21 => 21 | 5 => 5 | 46 => 56 | 119 => 278 | 139 => 281 | 138 => 280 | 146 => 282 | 51 => 26 | n => n, fun | 1 => 2 | 3 => 3 | 4 => 4 | n => n⟩
theorem Tryz.lays147 : Go.Proofs.Lays.n147 Tryz.prog Tryz.lays147_ren := {
 mixed := by kernel_rfl
 f138 := tc Tryz.func181
 f143 := tc Tryz.func182
 f147 := tc Tryz.func138
 f195 := tc Tryz.func237
 f197 := tc Tryz.func238
 f217 := tc Tryz.func255
 f218 := tc Tryz.func239
 f219 := tc Tryz.func240
 f221 := tc Tryz.func136
 f224 := tc Tryz.func257
 f225 := tc Tryz.func256
 f260 := tc Tryz.func254
 f266 := tc Tryz.func266
 f267 := tc Tryz.func258
 f268 := tc Tryz.func180
 f314 := tc Tryz.func267
 t0 := Tryz.underlying0
 a0 := Tryz.isAgg0
 z0 := Tryz.sizeOf0
 v0 := Tryz.zeroValue0
 t3 := Tryz.underlying3
 a3 := Tryz.isAgg3
 z3 := Tryz.sizeOf3
 v3 := Tryz.zeroValue3
 t4 := Tryz.underlying4
 a4 := Tryz.isAgg4
 z4 := Tryz.sizeOf4
 v4 := Tryz.zeroValue4
 t5 := Tryz.underlying5
 a5 := Tryz.isAgg5
 z5 := Tryz.sizeOf5
 v5 := Tryz.zeroValue5
 t9 := Tryz.underlying9
 a9 := Tryz.isAgg9
 z9 := Tryz.sizeOf9
 v9 := Tryz.zeroValue9
 t21 := Tryz.underlying21
 a21 := Tryz.isAgg21
 z21 := Tryz.sizeOf21
 v21 := Tryz.zeroValue21
 t31 := Tryz.underlying106
 a31 := Tryz.isAgg106
 z31 := Tryz.sizeOf106
 v31 := Tryz.zeroValue106
 t46 := Tryz.underlying56
 a46 := Tryz.isAgg56
 z46 := Tryz.sizeOf56
 v46 := Tryz.zeroValue56
 t51 := Tryz.underlying26
 a51 := Tryz.isAgg26
 z51 := Tryz.sizeOf26
 v51 := Tryz.zeroValue26
 t105 := Tryz.underlying258
 a105 := Tryz.isAgg258
 z105 := Tryz.sizeOf258
 v105 := Tryz.zeroValue258
 t119 := Tryz.underlying278
 a119 := Tryz.isAgg278
 z119 := Tryz.sizeOf278
 t138 := Tryz.underlying280
 a138 := Tryz.isAgg280
 z138 := Tryz.sizeOf280
 v138 := Tryz.zeroValue280
 t139 := Tryz.underlying281
 a139 := Tryz.isAgg281
 z139 := Tryz.sizeOf281
 v139 := Tryz.zeroValue281
 t146 := Tryz.underlying282
 a146 := Tryz.isAgg282
 z146 := Tryz.sizeOf282
 v146 := Tryz.zeroValue282
 g1 := by kernel_rfl
 g3 := by kernel_rfl
 g4 := by kernel_rfl }
open Go.RowKit Go.Lib in
theorem Tryz.strings_SplitN (s sep : ByteArray) (n : Nat) (m : Int) (w : World) (hs : s.size < 4294967281) (hm : w.cell? ⟨2, 0, none⟩ = some (.int .i64 m)) (h1 : 1 ≤ sep.size) (hn : 1 ≤ n) (hn63 : n ≤ 9223372036854775807) :
 Calls Tryz.prog 138 #[.string s, .string sep, .int .i64 n] w fun e w' =>
  e = .returned (.slice (some ⟨w.heap.size, 0, none⟩) (Lib.splitB sep 0 (min n (s.size + 1) - 1) s).length (min n (s.size + 1))) ∧ w' = w.alloc (.cells (Lib.cellsOf (Lib.splitB sep 0 (min n (s.size + 1) - 1) s) (min n (s.size + 1))) 9) := Any.strings_SplitN Tryz.lays147 (by kernel_rfl) s sep n m w hs hm h1 hn hn63
def Tryz.lays111_ren : Go.Shelf.Ren := ⟨fun | 111 => 64 | n => n, fun | 28 => 60 | 3 => 3 | 4 => 4 | 0 => 0 | n => n, fun | n => n⟩
theorem Tryz.lays111 : Go.Proofs.Lays.n111 Tryz.prog Tryz.lays111_ren := {
 mixed := by kernel_rfl
 f111 := tc Tryz.func64
 t0 := Tryz.underlying0
 a0 := Tryz.isAgg0
 z0 := Tryz.sizeOf0
 v0 := Tryz.zeroValue0
 t3 := Tryz.underlying3
 a3 := Tryz.isAgg3
 z3 := Tryz.sizeOf3
 v3 := Tryz.zeroValue3
 t4 := Tryz.underlying4
 a4 := Tryz.isAgg4
 z4 := Tryz.sizeOf4
 v4 := Tryz.zeroValue4
 t28 := Tryz.underlying60
 a28 := Tryz.isAgg60
 z28 := Tryz.sizeOf60
 v28 := Tryz.zeroValue60 }
open Go.RowKit Go.Lib in
theorem Tryz.slices_Equal_int (b1 o1 n c b2 o2 m d : Nat) (xs ys : List Int) (w : World) (hx : n ≤ xs.length) (hy : m ≤ ys.length) (hbig : n ≤ 9223372036854775807) (hbig2 : m ≤ 9223372036854775807) (hc1 : ∀ j, j < xs.length → w.cell? ⟨b1, o1 + j, none⟩ = some (.int .i64 (xs.getD j 0))) (hc2 : ∀ j, j < ys.length → w.cell? ⟨b2, o2 + j, none⟩ = some (.int .i64 (ys.getD j 0))) :
 Calls Tryz.prog 64 #[.slice (some ⟨b1, o1, none⟩) n c, .slice (some ⟨b2, o2, none⟩) m d] w fun e w' => e = .returned (.bool (xs.take n == ys.take m)) ∧ ∃ q, w' = w.drewN q := Any.slices_Equal_int Tryz.lays111 b1 o1 n c b2 o2 m d xs ys w hx hy hbig hbig2 hc1 hc2
open Go.RowKit Go.Lib in
theorem Tryz.slices_Equal_int_empty (a1 a2 : Option Addr) (c m d : Nat) (w : World) (hbig2 : m ≤ 9223372036854775807) :
 Calls Tryz.prog 64 #[.slice a1 0 c, .slice a2 m d] w fun e w' => e = .returned (.bool (decide (m = 0))) ∧ w' = w := Any.slices_Equal_int_empty Tryz.lays111 a1 a2 c m d w hbig2
open Go.RowKit Go.Lib in
theorem Tryz.slices_Equal_int_lens (a1 a2 : Option Addr) (n c m d : Nat) (w : World) (hnm : n ≠ m) :
 Calls Tryz.prog 64 #[.slice a1 n c, .slice a2 m d] w fun e w' => e = .returned (.bool false) ∧ w' = w := Any.slices_Equal_int_lens Tryz.lays111 a1 a2 n c m d w hnm
end Go.Proofs
end
section
namespace Go.Proofs
open Go.Shelf
theorem Tryz.lays166 : Go.Proofs.Lays.n166 Tryz.prog Tryz.lays156_ren := { Tryz.lays156 with }
open Go.RowKit in
theorem Tryz.Builder_WriteString_k (B b : Nat) (bs : List Value) (s : ByteArray) (w : World) (h : Lib.IsBuilderF 197 5 B b bs w) (hlen : bs.length + s.size ≤ 140737488355328) (hBw : B ≤ w.heap.size) :
 Calls Tryz.prog 143 #[.pointer (some ⟨b, 0, none⟩), .string s] w fun e w' => e = .returned (.tuple #[.int .i64 s.size, .nilIface]) ∧ (Lib.BuilderAtF 197 5 B b (.pointer (some ⟨b, 0, none⟩)) (bs ++ Lib.byteCells s.data.toList) w' ∧ Below B w w' ∧ Lib.OthersKept 5 (some b) w w') :=
 Any.Builder_WriteString_k Tryz.lays166 Tryz.Builder_Extra_156 B b bs s w h hlen hBw
end Go.Proofs
end
namespace Go.Proofs.YtbiopedpceddeaaGreatDoor
section
open Go.RowKit Go.Maps
namespace KT
open Go.Lib (itoa)
def Tens (W : World) : Prop := Lib.TabIs Tryz.prog W "internal/strconv.uint64pow10" .u64 Lib.pow10Tab
theorem Tens.below {W W' : World} (h : Tens W) (hb : Below W.heap.size W W') : Tens W' := by
 unfold Tens Lib.TabIs World.var? at h ⊢
 cases hg : Tryz.prog.globalNamed "internal/strconv.uint64pow10" with
 | none => rw [hg] at h; cases h
 | some g =>
  rw [hg] at h
  simp only [Option.bind_some] at h ⊢
  have hlt : g < W.heap.size := by
   by_cases hc : g < W.heap.size
   · exact hc
   · rw [Array.getElem?_eq_none (by omega)] at h
     cases h
  rw [hb.block g hlt]
  exact h
theorem kItoa_any {n : Int} (hn : -9223372036854775808 ≤ n ∧ n ≤ 9223372036854775807) {W : World} (hT : Tens W) : Calls Tryz.prog 86 #[.int .i64 n] W fun e w' => e = .returned (.string ⟨(itoa n).toArray⟩) ∧ Below W.heap.size W w' :=
 (Tryz.strconv_Itoa n hn.1 hn.2 W hT).mono fun e w' h => ⟨h.1, by obtain ⟨k, os, rfl⟩ := h.2; exact Lib.below_grow W.heap.size W (Nat.le_refl _) k os⟩
theorem kJoin_any {xs : List (List UInt8)} {A : Option Addr} {n c : Nat} {W : World} (hne : xs ≠ []) (c8 : UInt8) (ho : OwnAt W 9 1 (.slice A n c) n (xs.map fun l => Value.string ⟨l.toArray⟩)) (hl : (jn c8 xs).length ≤ 140737488355328) (hn : n ≤ 140737488355328) :
 Calls Tryz.prog 127 #[.slice A n c, .string ⟨#[c8]⟩] W fun e w' => e = .returned (.string ⟨(jn c8 xs).toArray⟩) ∧ Below W.heap.size W w' := by
 have hlen : xs.length = n := by have := ho.1; simpa using this
 rcases ho.2 with ⟨e, h0⟩ | ⟨g, off, cap, cur, e, hc, h1, h2, h3, h4⟩
 · exact absurd (by cases xs with | nil => rfl | cons _ _ => simp at hlen; omega) hne
 · injection e with e1 e2 e3
   subst e1 e3
   have hmap : (xs.map fun l => (⟨l.toArray⟩ : ByteArray)).map (·.data.toList) = xs := by
    rw [List.map_map]
    conv => rhs; rw [← List.map_id xs]
    exact List.map_congr_left fun a _ => rfl
   have hj := Tryz.strings_Join g off c (xs.map fun l => (⟨l.toArray⟩ : ByteArray)) ⟨#[c8]⟩ W ?_ (gA hc).1 (by simp; omega) (by simp; omega) ?_
   · rw [hmap, List.length_map, hlen] at hj
     have hj2 : Lib.join xs (⟨#[c8]⟩ : ByteArray).data.toList = jn c8 xs := jn_eq c8 xs
     rw [hj2] at hj
     exact hj
   · intro j x hx
     rw [List.getElem?_map] at hx
     cases hxj : xs[j]? with
     | none => rw [hxj] at hx; cases hx
     | some y =>
      rw [hxj] at hx
      simp only [Option.map_some] at hx
      cases hx
      have := h4 j (Value.string ⟨y.toArray⟩) (by rw [List.getElem?_map, hxj]; rfl)
      rw [World.cell?, hc]; simpa using this
   · rw [hmap]
     have hj2 : Lib.join xs (⟨#[c8]⟩ : ByteArray).data.toList = jn c8 xs := jn_eq c8 xs
     rw [hj2]
     exact hl
theorem infoS : (Tryz.prog.info? 9).map (fun i => (i.zero, i.size, i.bytes)) = some (some (.string ByteArray.empty), 1, 16) := by kernel_rfl
def svs (l : List Int) : List Value := (l.map itoa).map fun l => Value.string ⟨l.toArray⟩
theorem svs_snoc (l : List Int) (x : Int) : svs (l ++ [x]) = svs l ++ [.string ⟨(itoa x).toArray⟩] := by simp [svs]
theorem dec_len (k : Nat) : ∀ u, u < 10 ^ (k + 1) → (Lib.decDigits u).length ≤ k + 1 := by
 induction k with
 | zero => intro u h; unfold Lib.decDigits; rw [dif_pos (by omega)]; simp
 | succ k ih =>
  intro u h
  unfold Lib.decDigits
  split
  · simp
  · rw [List.length_append, List.length_singleton]
    have := ih (u / 10) (by rw [Nat.pow_succ] at h; omega)
    omega
theorem itoa_len {n : Int} (h : -9223372036854775808 ≤ n ∧ n ≤ 9223372036854775807) : (itoa n).length ≤ 20 := by
 have h1 := h.1
 have h2 := h.2
 unfold itoa
 split
 · have := dec_len 18 n.natAbs (by omega)
   simp
   omega
 · have := dec_len 18 n.toNat (by omega)
   omega
theorem jn_len_le (c : UInt8) (B : Nat) : ∀ xs : List (List UInt8), (∀ x ∈ xs, x.length ≤ B) → (jn c xs).length ≤ xs.length * (B + 1) := by
 intro xs
 induction xs with
 | nil => intro _; simp [jn]
 | cons x xs ih =>
  intro h
  have hx := h x (by simp)
  cases xs with
  | nil => simp only [jn, List.length_cons, List.length_nil]; omega
  | cons y l =>
   have := ih fun z hz => h z (List.mem_cons_of_mem _ hz)
   rw [jn]
   simp only [List.length_append, List.length_cons] at this ⊢
   rw [Nat.add_mul (l.length + 1) 1 (B + 1)]
   omega
theorem nums_len {l : List Int} (h : ∀ x ∈ l, -9223372036854775808 ≤ x ∧ x ≤ 9223372036854775807) : (nums l).length ≤ l.length * 21 := by
 have := jn_len_le 44 20 (l.map itoa) (fun x hx => by obtain ⟨n, hn, rfl⟩ := List.mem_map.1 hx; exact itoa_len (h n hn))
 simpa [nums] using this
end KT
end
section
open Go.RowKit
namespace KT
theorem laidMet_tail {P : Program} {n : String} {d : DataW Unit} {r : List (String × DataW Unit)} {w : World} (h : laidMet P ((n, d) :: r) w) : laidMet P r w := by
 obtain ⟨ps, ⟨g, t, cs, fuel, p, q, _, _, _, _, hq, rfl⟩, hn, hr⟩ := h
 exact ⟨q, hq, (List.nodup_append.1 hn).2.1, fun b off hm => hr b off (List.mem_append_right _ hm)⟩
theorem g10 : Tryz.prog.globalNamed "internal/strconv.uint64pow10" = some 1 := by kernel_rfl
theorem g10Type : (Tryz.prog.globals[1]?).map (·.type) = some 271 := by kernel_rfl
theorem cells10 : Tryz.prog.cellsOf 271 = 20 := by kernel_rfl
theorem cellsU64 : Tryz.prog.cellsOf 188 = 1 := by kernel_rfl
theorem und10 : Tryz.prog.underlying 271 = some (.array 20 188) := by kernel_rfl
theorem undU64 : Tryz.prog.underlying 188 = some (.int .u64) := by kernel_rfl
def tabOf : DataW Unit → List Value
 | .agg l => l.map fun d => match d with
  | .lit (.int k n) => Value.int k n
  | _ => undef
 | _ => []
end KT
end
section
namespace KT
open Go.Lib
theorem index_app (c : UInt8) (A : List UInt8) : ∀ x : List UInt8, c ∉ x → index (x ++ c :: A) [c] = x.length := by
 intro x
 induction x with
 | nil => intro _; rw [List.nil_append, index]; simp [List.isPrefixOf]
 | cons b x ih =>
  intro h
  simp only [List.mem_cons, not_or] at h
  rw [List.cons_append, index, if_neg (by simp [List.isPrefixOf, h.1]), ih h.2, if_neg (by rw [beq_iff_eq]; omega)]
  simp
theorem index_not (c : UInt8) : ∀ x : List UInt8, c ∉ x → index x [c] = -1 := by
 intro x
 induction x with
 | nil => intro _; simp [index]
 | cons b x ih =>
  intro h
  simp only [List.mem_cons, not_or] at h
  rw [index, if_neg (by simp [List.isPrefixOf, h.1]), ih h.2]
  rfl
theorem cut_app (c : UInt8) (x A : List UInt8) (h : c ∉ x) : cut (x ++ c :: A) [c] = (x, A, true) := by
 unfold cut
 rw [index_app c A x h, if_pos (by omega)]
 simp
theorem cut_not (c : UInt8) (x : List UInt8) (h : c ∉ x) : cut x [c] = (x, [], false) := by
 unfold cut
 rw [index_not c x h, if_neg (by omega)]
theorem cut_cases (c : UInt8) (s : List UInt8) : (c ∉ s ∧ cut s [c] = (s, [], false)) ∨ ∃ x A, s = x ++ c :: A ∧ c ∉ x ∧ cut s [c] = (x, A, true) := by
 by_cases h : c ∈ s
 · right
   induction s with
   | nil => cases h
   | cons b s ih =>
    by_cases hb : b = c
    · subst hb
      exact ⟨[], s, rfl, by simp, cut_app b [] s (by simp)⟩
    · obtain ⟨x, A, e, hx, _⟩ := ih (by simpa [Ne.symm hb] using h)
      have hx' : c ∉ b :: x := by simp [Ne.symm hb, hx]
      refine ⟨b :: x, A, by rw [e]; rfl, hx', ?_⟩
      rw [e]
      exact cut_app c (b :: x) A hx'
 · exact .inl ⟨h, cut_not c s h⟩
theorem splitK_jn (c : UInt8) : ∀ (xs : List (List UInt8)) (k : Nat), xs ≠ [] → (∀ x ∈ xs, c ∉ x) → xs.length ≤ k + 1 → splitK [c] 0 k (jn c xs) = xs := by
 intro xs
 induction xs with
 | nil => intro k h; exact absurd rfl h
 | cons x xs ih =>
  intro k _ hx hk
  have hx0 := hx x (by simp)
  cases xs with
  | nil =>
   rw [jn]
   cases k with
   | zero => rfl
   | succ k => rw [splitK, index_not c x hx0]; rfl
  | cons y l =>
   rw [jn]
   cases k with
   | zero => simp at hk
   | succ k =>
    rw [splitK, index_app c _ x hx0, if_neg (by rw [beq_iff_eq]; omega)]
    have e1 : (x ++ c :: jn c (y :: l)).take (((x.length : Nat) : Int).toNat + 0) = x := by simp
    have e2 : (x ++ c :: jn c (y :: l)).drop (((x.length : Nat) : Int).toNat + [c].length) = jn c (y :: l) := by
     simp
    rw [e1, e2, ih k (by simp) (fun z hz => hx z (List.mem_cons_of_mem _ hz)) (by simpa using hk)]
theorem count_jn (c : UInt8) : ∀ xs : List (List UInt8), xs ≠ [] → (∀ x ∈ xs, c ∉ x) → (jn c xs).count c + 1 = xs.length := by
 intro xs
 induction xs with
 | nil => intro h; exact absurd rfl h
 | cons x xs ih =>
  intro _ hx
  have h0 : x.count c = 0 := List.count_eq_zero.2 (hx x (by simp))
  cases xs with
  | nil => simp [jn, h0]
  | cons y l =>
   have := ih (by simp) fun z hz => hx z (List.mem_cons_of_mem _ hz)
   rw [jn, List.count_append, List.count_cons_self, h0]
   simp only [List.length_cons] at this ⊢
   omega
theorem split_jn (c : UInt8) (xs : List (List UInt8)) (h : xs ≠ []) (hx : ∀ x ∈ xs, c ∉ x) : split (jn c xs) [c] = xs := by
 unfold split
 have e : xs.length = count (jn c xs) [c] + 1 := by rw [count_one, count_jn c xs h hx]
 exact splitK_jn c xs _ h hx (Nat.le_of_eq e)
theorem jn_len (c : UInt8) : ∀ xs : List (List UInt8), xs.length ≤ (jn c xs).length + 1 := by
 intro xs
 induction xs with
 | nil => simp
 | cons x xs ih =>
  cases xs with
  | nil => simp
  | cons y l =>
   rw [jn]
   simp only [List.length_cons, List.length_append] at ih ⊢
   omega
theorem splitN_jn (c : UInt8) (xs : List (List UInt8)) (n : Nat) (h : xs ≠ []) (hx : ∀ x ∈ xs, c ∉ x) (hn : xs.length ≤ n) : splitN (jn c xs) [c] n = xs := by
 unfold splitN
 have := jn_len c xs
 exact splitK_jn c xs _ h hx (by omega)
def pcs (c : UInt8) : List UInt8 → List (List UInt8)
 | [] => [[]]
 | b :: l => if b = c then [] :: pcs c l else (b :: (pcs c l).headD []) :: (pcs c l).tail
theorem pcs_ne (c : UInt8) (s : List UInt8) : pcs c s ≠ [] := by
 cases s with
 | nil => simp [pcs]
 | cons b s => rw [pcs]; split <;> simp
theorem pcs_app (c : UInt8) (A : List UInt8) : ∀ x : List UInt8, c ∉ x → pcs c (x ++ c :: A) = x :: pcs c A := by
 intro x
 induction x with
 | nil => intro _; simp [pcs]
 | cons b x ih =>
  intro h
  simp only [List.mem_cons, not_or] at h
  rw [List.cons_append, pcs, if_neg (fun e => h.1 e.symm), ih h.2]
  rfl
theorem pcs_not (c : UInt8) : ∀ x : List UInt8, c ∉ x → pcs c x = [x] := by
 intro x
 induction x with
 | nil => intro _; rfl
 | cons b x ih =>
  intro h
  simp only [List.mem_cons, not_or] at h
  rw [pcs, if_neg (fun e => h.1 e.symm), ih h.2]
  rfl
theorem pcs_jn (c : UInt8) : ∀ xs : List (List UInt8), xs ≠ [] → (∀ x ∈ xs, c ∉ x) → pcs c (jn c xs) = xs := by
 intro xs
 induction xs with
 | nil => intro h; exact absurd rfl h
 | cons x xs ih =>
  intro _ hx
  cases xs with
  | nil => rw [jn]; exact pcs_not c x (hx x (by simp))
  | cons y l =>
   rw [jn, pcs_app c _ x (hx x (by simp)), ih (by simp) fun z hz => hx z (List.mem_cons_of_mem _ hz)]
def num (s : List UInt8) : Int := match parseUintB 32 s with
 | .ok u => u
 | _ => 0
theorem parse_app (M : Nat) (hM : M < 4294967296) : ∀ (l : List UInt8) (a : Nat), (∀ b ∈ l, 48 ≤ b.toNat ∧ b.toNat ≤ 57) → a ≤ M → (l.foldl (fun a b => 10 * a + (b.toNat - 48)) a) ≤ M → parseUintM M a l = .ok (l.foldl (fun a b => 10 * a + (b.toNat - 48)) a) := by
 intro l
 induction l with
 | nil => intro a _ _ _; rfl
 | cons b l ih =>
  intro a hl ha h
  have hb := hl b (by simp)
  have mono : ∀ (l : List UInt8) (a : Nat), a ≤ l.foldl (fun a b => 10 * a + (b.toNat - 48)) a := by
   intro l
   induction l with
   | nil => intro a; exact Nat.le_refl _
   | cons c l ih2 => intro a; exact Nat.le_trans (show a ≤ 10 * a + (c.toNat - 48) by omega) (ih2 _)
  have h1 : 10 * a + (b.toNat - 48) ≤ M := Nat.le_trans (mono l _) h
  rw [parseUintM, if_pos hb, if_neg (by omega), if_neg (by omega)]
  rw [show a * 10 + (b.toNat - 48) = 10 * a + (b.toNat - 48) by omega]
  exact ih _ (fun c hc => hl c (List.mem_cons_of_mem _ hc)) h1 h
theorem num_itoa {n : Int} (h0 : 0 ≤ n) (h1 : n < 4294967296) : num (itoa n) = n := by
 have e : itoa n = decDigits n.toNat := by unfold itoa; rw [if_neg (by omega)]
 have hv := val_dec n.toNat
 unfold val at hv
 have := parse_app (2 ^ 32 - 1) (by decide) (decDigits n.toNat) 0 (dec_dig _) (by omega) (by rw [hv]; omega)
 rw [hv] at this
 unfold num parseUintB
 rw [e, if_neg (dec_ne _), this]
 show ((n.toNat : Nat) : Int) = n
 omega
def rnumFrom (n : Int) : List UInt8 → Int
 | [] => if 4294967296 ≤ n then 0 else n
 | b :: l => if b.toNat < 48 ∨ 57 < b.toNat ∨ 4294967296 ≤ n then 0 else rnumFrom (10 * n + ((b.toNat : Int) - 48)) l
def rnum (s : List UInt8) : Int := rnumFrom 0 s
theorem rnumFrom_dig : ∀ (l : List UInt8) (a : Nat), (∀ b ∈ l, 48 ≤ b.toNat ∧ b.toNat ≤ 57) → (l.foldl (fun a b => 10 * a + (b.toNat - 48)) a) < 4294967296 → rnumFrom (a : Int) l = ((l.foldl (fun a b => 10 * a + (b.toNat - 48)) a : Nat) : Int) := by
 intro l
 induction l with
 | nil => intro a _ h; rw [rnumFrom, if_neg (by simp only [List.foldl_nil] at h; omega)]; rfl
 | cons b l ih =>
  intro a hl h
  have hb := hl b (by simp)
  have mono : ∀ (l : List UInt8) (a : Nat), a ≤ l.foldl (fun a b => 10 * a + (b.toNat - 48)) a := by
   intro l
   induction l with
   | nil => intro a; exact Nat.le_refl _
   | cons c l ih2 => intro a; exact Nat.le_trans (show a ≤ 10 * a + (c.toNat - 48) by omega) (ih2 _)
  have h1 : 10 * a + (b.toNat - 48) < 4294967296 := Nat.lt_of_le_of_lt (mono l _) h
  rw [rnumFrom, if_neg (by omega)]
  rw [show 10 * (a : Int) + ((b.toNat : Int) - 48) = ((10 * a + (b.toNat - 48) : Nat) : Int) by omega]
  exact ih _ (fun c hc => hl c (List.mem_cons_of_mem _ hc)) h
theorem rnum_itoa {n : Int} (h0 : 0 ≤ n) (h1 : n < 4294967296) : rnum (itoa n) = n := by
 have e : itoa n = decDigits n.toNat := by unfold itoa; rw [if_neg (by omega)]
 have hv := val_dec n.toNat
 unfold val at hv
 have := rnumFrom_dig (decDigits n.toNat) 0 (dec_dig _) (by rw [hv]; omega)
 rw [hv] at this
 rw [rnum, e]
 show rnumFrom ((0 : Nat) : Int) _ = n
 rw [this]
 omega
theorem num_range (s : List UInt8) : 0 ≤ num s ∧ num s < 4294967296 := by
 have hok : ∀ (l : List UInt8) (a u : Nat), a ≤ 2 ^ 32 - 1 → parseUintM (2 ^ 32 - 1) a l = .ok u → u ≤ 2 ^ 32 - 1 := by
  intro l
  induction l with
  | nil => intro a u ha h; rw [parseUintM] at h; injection h with h; omega
  | cons b l ih =>
   intro a u ha h
   rw [parseUintM] at h
   split at h
   · split at h
     · cases h
     · split at h
       · cases h
       · exact ih _ _ (by omega) h
   · cases h
 unfold num
 split
 · rename_i u h
   unfold parseUintB at h
   split at h
   · cases h
   · have := hok _ _ _ (by omega) h
     omega
 · omega
theorem rnum_range (s : List UInt8) : 0 ≤ rnum s ∧ rnum s < 4294967296 := by
 have : ∀ (l : List UInt8) (n : Int), 0 ≤ n → 0 ≤ rnumFrom n l ∧ rnumFrom n l < 4294967296 := by
  intro l
  induction l with
  | nil => intro n h; rw [rnumFrom]; split <;> omega
  | cons b l ih =>
   intro n h
   rw [rnumFrom]
   split
   · omega
   · exact ih _ (by omega)
 exact this s 0 (by omega)
end KT
end
end Go.Proofs.YtbiopedpceddeaaGreatDoor
