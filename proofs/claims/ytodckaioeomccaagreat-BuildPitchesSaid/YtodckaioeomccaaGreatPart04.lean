/- DERIVED: THE SHELF's CONTRACTS AT THIS DUMP, IN PLAIN WORDS (tools/lay-plain.mjs out of 'TryzShelf.lean', which tools/lay-shelf.mjs wrote): THE SAME DECLARATIONS UNDER THE SAME NAMES: 'import', 'namespace', 'open', 'def', 'theorem' AND NOTHING ELSE: no command of the shelf's: FOR A HAND-IN. Each laying: the table of numbers ('.._ren') and one theorem, a field a fact of the dump's own or the kernel's comparison; each contract: ONE APPLICATION. -/
import Derived.Shelf.Strings.Builder1
import Derived.Shelf.Strings.Builder2
import Derived.Shelf.Small.Bits
import Derived.Shelf.Small.Wraps
import Derived.Shelf.Strings.BuilderF
import Derived.Shelf.Strings.BuilderK
import Derived.Shelf.Strings.Builder2Cap
import Derived.Shelf.Strconv.Itoa0
import Derived.Shelf.Sort.Plain
import Derived.Shelf.Strings.Prefix
import Derived.Shelf.Bits.Mul64
import Derived.Shelf.Strings.Repeat
import Derived.Shelf.Strings.BuilderCap
import Derived.Shelf.Slices.Turned
import Derived.Shelf.Slices.Reverse
import Derived.Ground.Names2Prog
import Derived.Shelf.Slices.Clone
import Derived.Test.YtodckaioeomccaaGreatProg
namespace Go.Proofs
open Go.Shelf
def Tryz.lays169_ren : Go.Shelf.Ren := ⟨fun | 169 => 237 | n => n, fun | 70 => 306 | 9 => 9 | 0 => 0 | 72 => 309 | 37 => 307 | 127 => 350 | 3 => 3 | 5 => 5 | n => n, fun | n => n⟩
theorem Tryz.lays169 : Go.Proofs.Lays.n169 Tryz.prog Tryz.lays169_ren := {
 mixed := by kernel_rfl
 f169 := Tryz.func237.trans (congrArg some (by kernel_rfl))
 t0 := Tryz.underlying0
 a0 := Tryz.isAgg0
 z0 := Tryz.sizeOf0
 v0 := Tryz.zeroValue0
 t3 := Tryz.underlying3
 a3 := Tryz.isAgg3
 z3 := Tryz.sizeOf3
 v3 := Tryz.zeroValue3
 t9 := Tryz.underlying9
 a9 := Tryz.isAgg9
 z9 := Tryz.sizeOf9
 v9 := Tryz.zeroValue9
 t37 := Tryz.underlying307
 a37 := Tryz.isAgg307
 z37 := Tryz.sizeOf307
 v37 := Tryz.zeroValue307
 t70 := Tryz.underlying306
 a70 := Tryz.isAgg306
 z70 := Tryz.sizeOf306
 v70 := Tryz.zeroValue306
 t72 := Tryz.underlying309
 a72 := Tryz.isAgg309
 z72 := Tryz.sizeOf309
 v72 := Tryz.zeroValue309
 t127 := Tryz.underlying350
 a127 := Tryz.isAgg350
 z127 := Tryz.sizeOf350
 v127 := Tryz.zeroValue350 }
theorem Tryz.Builder_Extra_169 : Builder.Extra Tryz.prog Tryz.lays169_ren := {
 sizeBuilder := by kernel_rfl
 liesBuilder := by kernel_rfl
 t5 := Tryz.underlying5
 a5 := Tryz.isAgg5
 z5 := Tryz.sizeOf5
 v5 := Tryz.zeroValue5
 infoByte := by kernel_rfl
 cellsByte := by kernel_rfl
 sizeByte := by kernel_rfl
 neB5 := by decide }
open Go.RowKit in
theorem Tryz.Builder_String_any (B b : Nat) (l : List UInt8) (w : World) (h : Lib.IsBuilder 309 5 B b (Lib.byteCells l) w) (hBw : B ≤ w.heap.size) :
  Calls Tryz.prog 237 #[.pointer (some ⟨b, 0, none⟩)] w fun e w' => e = .returned (.string ⟨l.toArray⟩) ∧ Below B w w' := Any.Builder_String_any Tryz.lays169 Tryz.Builder_Extra_169 B b l w h hBw
def Tryz.lays134_ren : Go.Shelf.Ren := ⟨fun | 134 => 266 | 129 => 264 | n => n, fun | 53 => 270 | 3 => 3 | 4 => 4 | 46 => 295 | 5 => 5 | 9 => 9 | n => n, fun | n => n⟩
theorem Tryz.lays134 : Go.Proofs.Lays.n134 Tryz.prog Tryz.lays134_ren := {
 mixed := by kernel_rfl
 f129 := Tryz.func264.trans (congrArg some (by kernel_rfl))
 f134 := Tryz.func266.trans (congrArg some (by kernel_rfl))
 t3 := Tryz.underlying3
 a3 := Tryz.isAgg3
 z3 := Tryz.sizeOf3
 v3 := Tryz.zeroValue3
 t4 := Tryz.underlying4
 a4 := Tryz.isAgg4
 z4 := Tryz.sizeOf4
 v4 := Tryz.zeroValue4
 t5 := Tryz.underlying5
 a5 := Tryz.isAgg5
 z5 := Tryz.sizeOf5
 v5 := Tryz.zeroValue5
 t9 := Tryz.underlying9
 a9 := Tryz.isAgg9
 z9 := Tryz.sizeOf9
 v9 := Tryz.zeroValue9
 t46 := Tryz.underlying295
 a46 := Tryz.isAgg295
 z46 := Tryz.sizeOf295
 v46 := Tryz.zeroValue295
 t53 := Tryz.underlying270
 a53 := Tryz.isAgg270
 z53 := Tryz.sizeOf270
 v53 := Tryz.zeroValue270 }
theorem Tryz.bits_LeadingZeros64 (x : Int) (w : World) (h0 : 0 ≤ x) (h1 : x ≤ 18446744073709551615) :
  Calls Tryz.prog 266 #[.int .u64 x] w fun e w' => e = .returned (.int .i64 (64 - (Lib.bitLen x.toNat : Int))) ∧ w' = w := Any.bits_LeadingZeros64 Tryz.lays134 x w h0 h1
def Tryz.lays189_ren : Go.Shelf.Ren := ⟨fun | 189 => 194 | 125 => 224 | 257 => 248 | 128 => 263 | 129 => 264 | 294 => 283 | 295 => 284 | 296 => 285 | 297 => 286 | 298 => 287 | 299 => 288 | 216 => 289 | 300 => 290 | 301 => 291 | 328 => 305 | 329 => 295 | 330 => 296 | 331 => 306 | 332 => 307 | 215 => 308 | 343 => 313 | n => n, fun | 28 => 22 | 3 => 3 | 46 => 295 | 0 => 0 | 51 => 271 | 53 => 270 | 4 => 4 | 183 => 335 | 182 => 334 | 131 => 339 | 5 => 5 | 9 => 9 | 218 => 363 | 222 => 367 | 228 => 376 | 229 => 377 | n => n, fun | n => n⟩
theorem Tryz.lays189 : Go.Proofs.Lays.n189 Tryz.prog Tryz.lays189_ren := {
 mixed := by kernel_rfl
 f125 := Tryz.func224.trans (congrArg some (by kernel_rfl))
 f128 := Tryz.func263.trans (congrArg some (by kernel_rfl))
 f129 := Tryz.func264.trans (congrArg some (by kernel_rfl))
 f189 := Tryz.func194.trans (congrArg some (by kernel_rfl))
 f215 := Tryz.func308.trans (congrArg some (by kernel_rfl))
 f216 := Tryz.func289.trans (congrArg some (by kernel_rfl))
 f257 := Tryz.func248.trans (congrArg some (by kernel_rfl))
 f294 := Tryz.func283.trans (congrArg some (by kernel_rfl))
 f295 := Tryz.func284.trans (congrArg some (by kernel_rfl))
 f296 := Tryz.func285.trans (congrArg some (by kernel_rfl))
 f297 := Tryz.func286.trans (congrArg some (by kernel_rfl))
 f298 := Tryz.func287.trans (congrArg some (by kernel_rfl))
 f299 := Tryz.func288.trans (congrArg some (by kernel_rfl))
 f300 := Tryz.func290.trans (congrArg some (by kernel_rfl))
 f301 := Tryz.func291.trans (congrArg some (by kernel_rfl))
 f328 := Tryz.func305.trans (congrArg some (by kernel_rfl))
 f329 := Tryz.func295.trans (congrArg some (by kernel_rfl))
 f330 := Tryz.func296.trans (congrArg some (by kernel_rfl))
 f331 := Tryz.func306.trans (congrArg some (by kernel_rfl))
 f332 := Tryz.func307.trans (congrArg some (by kernel_rfl))
 f343 := Tryz.func313.trans (congrArg some (by kernel_rfl))
 t0 := Tryz.underlying0
 a0 := Tryz.isAgg0
 z0 := Tryz.sizeOf0
 v0 := Tryz.zeroValue0
 t3 := Tryz.underlying3
 a3 := Tryz.isAgg3
 z3 := Tryz.sizeOf3
 v3 := Tryz.zeroValue3
 t4 := Tryz.underlying4
 a4 := Tryz.isAgg4
 z4 := Tryz.sizeOf4
 v4 := Tryz.zeroValue4
 t5 := Tryz.underlying5
 a5 := Tryz.isAgg5
 z5 := Tryz.sizeOf5
 v5 := Tryz.zeroValue5
 t9 := Tryz.underlying9
 a9 := Tryz.isAgg9
 z9 := Tryz.sizeOf9
 v9 := Tryz.zeroValue9
 t28 := Tryz.underlying22
 a28 := Tryz.isAgg22
 z28 := Tryz.sizeOf22
 v28 := Tryz.zeroValue22
 t46 := Tryz.underlying295
 a46 := Tryz.isAgg295
 z46 := Tryz.sizeOf295
 v46 := Tryz.zeroValue295
 t51 := Tryz.underlying271
 a51 := Tryz.isAgg271
 z51 := Tryz.sizeOf271
 v51 := Tryz.zeroValue271
 t53 := Tryz.underlying270
 a53 := Tryz.isAgg270
 z53 := Tryz.sizeOf270
 v53 := Tryz.zeroValue270
 t131 := Tryz.underlying339
 a131 := Tryz.isAgg339
 z131 := Tryz.sizeOf339
 v131 := Tryz.zeroValue339
 t182 := Tryz.underlying334
 a182 := Tryz.isAgg334
 z182 := Tryz.sizeOf334
 v182 := Tryz.zeroValue334
 t183 := Tryz.underlying335
 a183 := Tryz.isAgg335
 z183 := Tryz.sizeOf335
 v183 := Tryz.zeroValue335
 t218 := Tryz.underlying363
 a218 := Tryz.isAgg363
 z218 := Tryz.sizeOf363
 v218 := Tryz.zeroValue363
 t222 := Tryz.underlying367
 a222 := Tryz.isAgg367
 z222 := Tryz.sizeOf367
 v222 := Tryz.zeroValue367
 t228 := Tryz.underlying376
 a228 := Tryz.isAgg376
 z228 := Tryz.sizeOf376
 v228 := Tryz.zeroValue376
 t229 := Tryz.underlying377
 a229 := Tryz.isAgg377
 z229 := Tryz.sizeOf377
 v229 := Tryz.zeroValue377 }
open Go.Sort Go.RowKit in
theorem Tryz.slices_Sort_int (blk off cap : Nat) (zs : List Int) (w : World) (hH : Holds (Value.int .i64) w blk off zs.toArray) (hblk : blk < w.heap.size) (hsz : zs.length < 4611686018427387904) :
  Calls Tryz.prog 194 #[.slice (some ⟨blk, off, none⟩) zs.length cap] w fun e w' =>
   e = .returned (.tuple #[]) ∧ ∃ n os, w' = grow (putRow (Value.int .i64) (Sort.ahead w n) blk off (zs.mergeSort fun x y => decide (x ≤ y)).toArray) os := Any.slices_Sort_int Tryz.lays189 blk off cap zs w hH hblk hsz
def Tryz.lays105_ren : Go.Shelf.Ren := ⟨fun | 105 => 235 | 212 => 272 | 99 => 273 | 165 => 274 | 166 => 236 | 170 => 275 | 169 => 237 | 263 => 300 | 264 => 230 | 206 => 301 | 240 => 276 | 241 => 302 | 276 => 303 | 277 => 312 | n => n, fun | 9 => 9 | 3 => 3 | 4 => 4 | 20 => 20 | 0 => 0 | 46 => 295 | 109 => 346 | 5 => 5 | 72 => 309 | 76 => 312 | 51 => 271 | 146 => 370 | 53 => 270 | 148 => 298 | 70 => 306 | 37 => 307 | 75 => 311 | 127 => 350 | 164 => 372 | 80 => 178 | n => n, fun | n => n⟩
theorem Tryz.lays105 : Go.Proofs.Lays.n105 Tryz.prog Tryz.lays105_ren := {
 mixed := by kernel_rfl
 f99 := Tryz.func273.trans (congrArg some (by kernel_rfl))
 f105 := Tryz.func235.trans (congrArg some (by kernel_rfl))
 f165 := Tryz.func274.trans (congrArg some (by kernel_rfl))
 f166 := Tryz.func236.trans (congrArg some (by kernel_rfl))
 f169 := Tryz.func237.trans (congrArg some (by kernel_rfl))
 f170 := Tryz.func275.trans (congrArg some (by kernel_rfl))
 f206 := Tryz.func301.trans (congrArg some (by kernel_rfl))
 f212 := Tryz.func272.trans (congrArg some (by kernel_rfl))
 f240 := Tryz.func276.trans (congrArg some (by kernel_rfl))
 f241 := Tryz.func302.trans (congrArg some (by kernel_rfl))
 f263 := Tryz.func300.trans (congrArg some (by kernel_rfl))
 f264 := Tryz.func230.trans (congrArg some (by kernel_rfl))
 f276 := Tryz.func303.trans (congrArg some (by kernel_rfl))
 f277 := Tryz.func312.trans (congrArg some (by kernel_rfl))
 t0 := Tryz.underlying0
 a0 := Tryz.isAgg0
 z0 := Tryz.sizeOf0
 v0 := Tryz.zeroValue0
 t3 := Tryz.underlying3
 a3 := Tryz.isAgg3
 z3 := Tryz.sizeOf3
 v3 := Tryz.zeroValue3
 t4 := Tryz.underlying4
 a4 := Tryz.isAgg4
 z4 := Tryz.sizeOf4
 v4 := Tryz.zeroValue4
 t5 := Tryz.underlying5
 a5 := Tryz.isAgg5
 z5 := Tryz.sizeOf5
 v5 := Tryz.zeroValue5
 t9 := Tryz.underlying9
 a9 := Tryz.isAgg9
 z9 := Tryz.sizeOf9
 v9 := Tryz.zeroValue9
 t20 := Tryz.underlying20
 a20 := Tryz.isAgg20
 z20 := Tryz.sizeOf20
 v20 := Tryz.zeroValue20
 t37 := Tryz.underlying307
 a37 := Tryz.isAgg307
 z37 := Tryz.sizeOf307
 v37 := Tryz.zeroValue307
 t46 := Tryz.underlying295
 a46 := Tryz.isAgg295
 z46 := Tryz.sizeOf295
 v46 := Tryz.zeroValue295
 t51 := Tryz.underlying271
 a51 := Tryz.isAgg271
 z51 := Tryz.sizeOf271
 v51 := Tryz.zeroValue271
 t53 := Tryz.underlying270
 a53 := Tryz.isAgg270
 z53 := Tryz.sizeOf270
 v53 := Tryz.zeroValue270
 t70 := Tryz.underlying306
 a70 := Tryz.isAgg306
 z70 := Tryz.sizeOf306
 v70 := Tryz.zeroValue306
 t72 := Tryz.underlying309
 a72 := Tryz.isAgg309
 z72 := Tryz.sizeOf309
 v72 := Tryz.zeroValue309
 t75 := Tryz.underlying311
 a75 := Tryz.isAgg311
 z75 := Tryz.sizeOf311
 v75 := Tryz.zeroValue311
 t76 := Tryz.underlying312
 a76 := Tryz.isAgg312
 z76 := Tryz.sizeOf312
 v76 := Tryz.zeroValue312
 t109 := Tryz.underlying346
 a109 := Tryz.isAgg346
 z109 := Tryz.sizeOf346
 v109 := Tryz.zeroValue346
 t127 := Tryz.underlying350
 a127 := Tryz.isAgg350
 z127 := Tryz.sizeOf350
 v127 := Tryz.zeroValue350
 t146 := Tryz.underlying370
 a146 := Tryz.isAgg370
 z146 := Tryz.sizeOf370
 v146 := Tryz.zeroValue370
 t148 := Tryz.underlying298
 a148 := Tryz.isAgg298
 z148 := Tryz.sizeOf298
 v148 := Tryz.zeroValue298
 t164 := Tryz.underlying372
 a164 := Tryz.isAgg372
 z164 := Tryz.sizeOf372
 v164 := Tryz.zeroValue372 }
theorem Tryz.Builder_Extra_105 : Builder.Extra Tryz.prog Tryz.lays105_ren := {
 sizeBuilder := by kernel_rfl
 liesBuilder := by kernel_rfl
 t5 := Tryz.underlying5
 a5 := Tryz.isAgg5
 z5 := Tryz.sizeOf5
 v5 := Tryz.zeroValue5
 infoByte := by kernel_rfl
 cellsByte := by kernel_rfl
 sizeByte := by kernel_rfl
 neB5 := by decide }
open Go.RowKit Go.Lib in
theorem Tryz.strings_Repeat (s : ByteArray) (c : Nat) (w : World) (hc : c ≤ 9223372036854775807) (hlen : s.size * c ≤ 140737488355328) :
  Calls Tryz.prog 235 #[.string s, .int .i64 c] w fun e w' => e = .returned (.string ⟨(Lib.repeatL s.data.toList c).toArray⟩) ∧ Below w.heap.size w w' := Any.strings_Repeat Tryz.lays105 Tryz.Builder_Extra_105 s c w hc hlen
def Tryz.lays113_ren : Go.Shelf.Ren := ⟨fun | 113 => 95 | n => n, fun | 28 => 22 | 3 => 3 | 4 => 4 | 9 => 9 | 20 => 20 | 0 => 0 | n => n, fun | n => n⟩
theorem Tryz.lays113 : Go.Proofs.Lays.n113 Tryz.prog Tryz.lays113_ren := {
 mixed := by kernel_rfl
 f113 := Tryz.func95.trans (congrArg some (by kernel_rfl))
 t0 := Tryz.underlying0
 a0 := Tryz.isAgg0
 z0 := Tryz.sizeOf0
 v0 := Tryz.zeroValue0
 t3 := Tryz.underlying3
 a3 := Tryz.isAgg3
 z3 := Tryz.sizeOf3
 v3 := Tryz.zeroValue3
 t4 := Tryz.underlying4
 a4 := Tryz.isAgg4
 z4 := Tryz.sizeOf4
 v4 := Tryz.zeroValue4
 t9 := Tryz.underlying9
 a9 := Tryz.isAgg9
 z9 := Tryz.sizeOf9
 v9 := Tryz.zeroValue9
 t20 := Tryz.underlying20
 a20 := Tryz.isAgg20
 z20 := Tryz.sizeOf20
 v20 := Tryz.zeroValue20
 t28 := Tryz.underlying22
 a28 := Tryz.isAgg22
 z28 := Tryz.sizeOf22
 v28 := Tryz.zeroValue22 }
open Go.Lib in
theorem Tryz.slices_Max_int (b off n c : Nat) (zs : List Int) (w : World) (hn : 0 < n) (hz : n ≤ zs.length) (hbig : n ≤ 9223372036854775807) (hc : ∀ j, j < zs.length → w.cell? ⟨b, off + j, none⟩ = some (.int .i64 (zs.getD j 0))) :
  Calls Tryz.prog 95 #[.slice (some ⟨b, off, none⟩) n c] w fun e w' => e = .returned (.int .i64 (Lib.maxOf (zs.take n))) ∧ w' = w := Any.slices_Max_int Tryz.lays113 b off n c zs w hn hz hbig hc
def Tryz.lays112_ren : Go.Shelf.Ren := ⟨fun | 112 => 196 | n => n, fun | 28 => 22 | 3 => 3 | 4 => 4 | 0 => 0 | n => n, fun | n => n⟩
theorem Tryz.lays112 : Go.Proofs.Lays.n112 Tryz.prog Tryz.lays112_ren := {
 mixed := by kernel_rfl
 f112 := Tryz.func196.trans (congrArg some (by kernel_rfl))
 t0 := Tryz.underlying0
 a0 := Tryz.isAgg0
 z0 := Tryz.sizeOf0
 v0 := Tryz.zeroValue0
 t3 := Tryz.underlying3
 a3 := Tryz.isAgg3
 z3 := Tryz.sizeOf3
 v3 := Tryz.zeroValue3
 t4 := Tryz.underlying4
 a4 := Tryz.isAgg4
 z4 := Tryz.sizeOf4
 v4 := Tryz.zeroValue4
 t28 := Tryz.underlying22
 a28 := Tryz.isAgg22
 z28 := Tryz.sizeOf22
 v28 := Tryz.zeroValue22 }
open Go.RowKit Go.Lib Go.Sort in
theorem Tryz.slices_Reverse_int (blk off cap : Nat) (zs : List Int) (w : World) (hH : Holds (Value.int .i64) w blk off zs.toArray) (hsz : zs.length ≤ 9223372036854775807) :
  Calls Tryz.prog 196 #[.slice (some ⟨blk, off, none⟩) zs.length cap] w fun e w' => e = .returned (.tuple #[]) ∧ ∃ n, w' = putRow (Value.int .i64) (Sort.ahead w n) blk off zs.reverse.toArray := Any.slices_Reverse_int Tryz.lays112 blk off cap zs w hH hsz
def Tryz.laysNm215_ren : Go.Shelf.Ren := ⟨fun | 15 => 111 | n => n, fun | 22 => 22 | 3 => 3 | 4 => 4 | n => n, fun | n => n⟩
theorem Tryz.laysNm215 : Go.Proofs.Lays2.n15 Tryz.prog Tryz.laysNm215_ren := {
 mixed := by kernel_rfl
 f15 := Tryz.func111.trans (congrArg some (by kernel_rfl))
 t3 := Tryz.underlying3
 a3 := Tryz.isAgg3
 z3 := Tryz.sizeOf3
 v3 := Tryz.zeroValue3
 t4 := Tryz.underlying4
 a4 := Tryz.isAgg4
 z4 := Tryz.sizeOf4
 v4 := Tryz.zeroValue4
 t22 := Tryz.underlying22
 a22 := Tryz.isAgg22
 z22 := Tryz.sizeOf22
 v22 := Tryz.zeroValue22
 i3 := by kernel_rfl }
open Go.RowKit Go.Lib in
theorem Tryz.slices_Clone_int (b off n c : Nat) (zs : List Int) (w : World) (hz : n ≤ zs.length) (hbig : n * 8 ≤ 140737488355328) (hc : ∀ j, j < zs.length → w.cell? ⟨b, off + j, none⟩ = some (.int .i64 (zs.getD j 0))) :
  Calls Tryz.prog 111 #[.slice (some ⟨b, off, none⟩) n c] w fun e w' => ∃ v', e = .returned v' ∧ w'.ownsRow w.heap.size 3 1 v' n ((zs.take n).map (Value.int .i64)) ∧ v' ≠ .slice none 0 0 ∧ Below w.heap.size w w' := Any.slices_Clone_int Tryz.laysNm215 b off n c zs w hz hbig hc
end Go.Proofs
