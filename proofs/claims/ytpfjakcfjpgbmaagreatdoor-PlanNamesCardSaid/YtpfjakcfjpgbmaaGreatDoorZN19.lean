/- The contracts of the library that the walks use, laid at this program (printed by a tool of the kit; pruned). -/
import Derived.Shelf.Strings.Builder1
import Derived.Shelf.Strings.Builder2
import Derived.Shelf.Small.Bits
import Derived.Shelf.Small.Strs
import Derived.Shelf.Utf8.RuneCount
import Derived.Shelf.Strconv.Itoa0
import Derived.Shelf.Strings.Search1
import Derived.Shelf.Strings.Search2
import Derived.Shelf.Strings.Search3
import Derived.Shelf.Strings.Count
import Derived.Shelf.LaysM
import Derived.Shelf.Strings.Shaped
import Derived.Shelf.Strings.Split
import Derived.Shelf.Strings.Replace
import Derived.Shelf.Strings.SplitShaped
import Derived.Shelf.Unicode.Decode
import Derived.Shelf.Strings.RuneCount
import Derived.Shelf.Unicode.DecodeSlow
import Derived.Shelf.Unicode.DecodeAny
import Derived.Shelf.Slices.Turned
import Derived.Ground.Names2Prog
import Derived.Shelf.Slices.SearchI
import Derived.Ground.SlgnProg
import Derived.Shelf.SlicesG.SearchI
import Derived.Test.YtpfjakcfjpgbmaaGreatDoorProg
namespace Go.Proofs
open Go.Shelf
def Tryz.lays169_ren : Go.Shelf.Ren := ⟨fun | 169 => 222 | n => n, fun | 70 => 284 | 9 => 9 | 0 => 0 | 72 => 287 | 37 => 285 | 127 => 315 | 3 => 3 | 5 => 5 | n => n, fun | n => n⟩
theorem Tryz.lays169 : Go.Proofs.Lays.n169 Tryz.prog Tryz.lays169_ren := {
  mixed := by kernel_rfl
  f169 := Tryz.func222.trans (congrArg some (by kernel_rfl))
  t0 := Tryz.underlying0
  a0 := Tryz.isAgg0
  z0 := Tryz.sizeOf0
  v0 := Tryz.zeroValue0
  t3 := Tryz.underlying3
  a3 := Tryz.isAgg3
  z3 := Tryz.sizeOf3
  v3 := Tryz.zeroValue3
  t9 := Tryz.underlying9
  a9 := Tryz.isAgg9
  z9 := Tryz.sizeOf9
  v9 := Tryz.zeroValue9
  t37 := Tryz.underlying285
  a37 := Tryz.isAgg285
  z37 := Tryz.sizeOf285
  v37 := Tryz.zeroValue285
  t70 := Tryz.underlying284
  a70 := Tryz.isAgg284
  z70 := Tryz.sizeOf284
  v70 := Tryz.zeroValue284
  t72 := Tryz.underlying287
  a72 := Tryz.isAgg287
  z72 := Tryz.sizeOf287
  v72 := Tryz.zeroValue287
  t127 := Tryz.underlying315
  a127 := Tryz.isAgg315
  z127 := Tryz.sizeOf315
  v127 := Tryz.zeroValue315 }
theorem Tryz.Builder_Extra_169 : Builder.Extra Tryz.prog Tryz.lays169_ren := {
  sizeBuilder := by kernel_rfl
  liesBuilder := by kernel_rfl
  t5 := Tryz.underlying5
  a5 := Tryz.isAgg5
  z5 := Tryz.sizeOf5
  v5 := Tryz.zeroValue5
  infoByte := by kernel_rfl
  cellsByte := by kernel_rfl
  sizeByte := by kernel_rfl
  neB5 := by decide }
def Tryz.lays155_ren : Go.Shelf.Ren := ⟨fun | 155 => 234 | 154 => 248 | 138 => 259 | 165 => 260 | 143 => 247 | 166 => 232 | 197 => 261 | 169 => 222 | 195 => 267 | 218 => 268 | 240 => 245 | 241 => 269 | 219 => 258 | 260 => 270 | 276 => 255 | 277 => 273 | 217 => 158 | 225 => 264 | 224 => 265 | 267 => 266 | 266 => 218 | 314 => 272 | n => n, fun | 9 => 9 | 3 => 3 | 4 => 4 | 72 => 287 | 0 => 0 | 76 => 297 | 105 => 343 | 21 => 21 | 5 => 5 | 70 => 284 | 20 => 20 | 37 => 285 | 75 => 229 | 127 => 315 | 164 => 329 | 46 => 311 | 119 => 289 | 139 => 356 | 138 => 355 | 146 => 351 | 51 => 319 | 80 => 237 | n => n, fun | 1 => 2 | 3 => 6 | 4 => 7 | n => n⟩
theorem Tryz.lays155 : Go.Proofs.Lays.n155 Tryz.prog Tryz.lays155_ren := {
  mixed := by kernel_rfl
  f138 := Tryz.func259.trans (congrArg some (by kernel_rfl))
  f143 := Tryz.func247.trans (congrArg some (by kernel_rfl))
  f154 := Tryz.func248.trans (congrArg some (by kernel_rfl))
  f155 := Tryz.func234.trans (congrArg some (by kernel_rfl))
  f165 := Tryz.func260.trans (congrArg some (by kernel_rfl))
  f166 := Tryz.func232.trans (congrArg some (by kernel_rfl))
  f169 := Tryz.func222.trans (congrArg some (by kernel_rfl))
  f195 := Tryz.func267.trans (congrArg some (by kernel_rfl))
  f197 := Tryz.func261.trans (congrArg some (by kernel_rfl))
  f217 := Tryz.func158.trans (congrArg some (by kernel_rfl))
  f218 := Tryz.func268.trans (congrArg some (by kernel_rfl))
  f219 := Tryz.func258.trans (congrArg some (by kernel_rfl))
  f224 := Tryz.func265.trans (congrArg some (by kernel_rfl))
  f225 := Tryz.func264.trans (congrArg some (by kernel_rfl))
  f240 := Tryz.func245.trans (congrArg some (by kernel_rfl))
  f241 := Tryz.func269.trans (congrArg some (by kernel_rfl))
  f260 := Tryz.func270.trans (congrArg some (by kernel_rfl))
  f266 := Tryz.func218.trans (congrArg some (by kernel_rfl))
  f267 := Tryz.func266.trans (congrArg some (by kernel_rfl))
  f276 := Tryz.func255.trans (congrArg some (by kernel_rfl))
  f277 := Tryz.func273.trans (congrArg some (by kernel_rfl))
  f314 := Tryz.func272.trans (congrArg some (by kernel_rfl))
  t0 := Tryz.underlying0
  a0 := Tryz.isAgg0
  z0 := Tryz.sizeOf0
  v0 := Tryz.zeroValue0
  t3 := Tryz.underlying3
  a3 := Tryz.isAgg3
  z3 := Tryz.sizeOf3
  v3 := Tryz.zeroValue3
  t4 := Tryz.underlying4
  a4 := Tryz.isAgg4
  z4 := Tryz.sizeOf4
  v4 := Tryz.zeroValue4
  t5 := Tryz.underlying5
  a5 := Tryz.isAgg5
  z5 := Tryz.sizeOf5
  v5 := Tryz.zeroValue5
  t9 := Tryz.underlying9
  a9 := Tryz.isAgg9
  z9 := Tryz.sizeOf9
  v9 := Tryz.zeroValue9
  t20 := Tryz.underlying20
  a20 := Tryz.isAgg20
  z20 := Tryz.sizeOf20
  v20 := Tryz.zeroValue20
  t21 := Tryz.underlying21
  a21 := Tryz.isAgg21
  z21 := Tryz.sizeOf21
  v21 := Tryz.zeroValue21
  t37 := Tryz.underlying285
  a37 := Tryz.isAgg285
  z37 := Tryz.sizeOf285
  v37 := Tryz.zeroValue285
  t46 := Tryz.underlying311
  a46 := Tryz.isAgg311
  z46 := Tryz.sizeOf311
  v46 := Tryz.zeroValue311
  t51 := Tryz.underlying319
  a51 := Tryz.isAgg319
  z51 := Tryz.sizeOf319
  v51 := Tryz.zeroValue319
  t70 := Tryz.underlying284
  a70 := Tryz.isAgg284
  z70 := Tryz.sizeOf284
  v70 := Tryz.zeroValue284
  t72 := Tryz.underlying287
  a72 := Tryz.isAgg287
  z72 := Tryz.sizeOf287
  v72 := Tryz.zeroValue287
  t75 := Tryz.underlying229
  a75 := Tryz.isAgg229
  z75 := Tryz.sizeOf229
  v75 := Tryz.zeroValue229
  t76 := Tryz.underlying297
  a76 := Tryz.isAgg297
  z76 := Tryz.sizeOf297
  v76 := Tryz.zeroValue297
  t105 := Tryz.underlying343
  a105 := Tryz.isAgg343
  z105 := Tryz.sizeOf343
  v105 := Tryz.zeroValue343
  t119 := Tryz.underlying289
  a119 := Tryz.isAgg289
  z119 := Tryz.sizeOf289
  t127 := Tryz.underlying315
  a127 := Tryz.isAgg315
  z127 := Tryz.sizeOf315
  v127 := Tryz.zeroValue315
  t138 := Tryz.underlying355
  a138 := Tryz.isAgg355
  z138 := Tryz.sizeOf355
  v138 := Tryz.zeroValue355
  t139 := Tryz.underlying356
  a139 := Tryz.isAgg356
  z139 := Tryz.sizeOf356
  v139 := Tryz.zeroValue356
  t146 := Tryz.underlying351
  a146 := Tryz.isAgg351
  z146 := Tryz.sizeOf351
  v146 := Tryz.zeroValue351
  t164 := Tryz.underlying329
  a164 := Tryz.isAgg329
  z164 := Tryz.sizeOf329
  v164 := Tryz.zeroValue329
  g1 := by kernel_rfl
  g3 := by kernel_rfl
  g4 := by kernel_rfl }
theorem Tryz.Builder_Extra_155 : Builder.Extra Tryz.prog Tryz.lays155_ren := {
  sizeBuilder := by kernel_rfl
  liesBuilder := by kernel_rfl
  t5 := Tryz.underlying5
  a5 := Tryz.isAgg5
  z5 := Tryz.sizeOf5
  v5 := Tryz.zeroValue5
  infoByte := by kernel_rfl
  cellsByte := by kernel_rfl
  sizeByte := by kernel_rfl
  neB5 := by decide }
open Go.RowKit Go.Lib in
theorem Tryz.strings_ReplaceAll (s old new : ByteArray) (m : Int) (w : World) (hs : s.size < 4294967281) (hm : w.cell? ⟨2, 0, none⟩ = some (.int .i64 m)) (h1 : 1 ≤ old.size) (hlen : s.size + Lib.countB s old * new.size ≤ 140737488355328) :
    Calls Tryz.prog 234 #[.string s, .string old, .string new] w fun e w' =>
      e = .returned (.string ⟨(Lib.replaceAll s.data.toList old.data.toList new.data.toList).toArray⟩) ∧ Below w.heap.size w w' := Any.strings_ReplaceAll Tryz.lays155 Tryz.Builder_Extra_155 s old new m w hs hm h1 hlen
def Tryz.lays107_ren : Go.Shelf.Ren := ⟨fun | 107 => 139 | 108 => 213 | n => n, fun | 28 => 52 | 3 => 3 | 4 => 4 | 0 => 0 | n => n, fun | n => n⟩
theorem Tryz.lays107 : Go.Proofs.Lays.n107 Tryz.prog Tryz.lays107_ren := {
  mixed := by kernel_rfl
  f107 := Tryz.func139.trans (congrArg some (by kernel_rfl))
  f108 := Tryz.func213.trans (congrArg some (by kernel_rfl))
  t0 := Tryz.underlying0
  a0 := Tryz.isAgg0
  z0 := Tryz.sizeOf0
  v0 := Tryz.zeroValue0
  t3 := Tryz.underlying3
  a3 := Tryz.isAgg3
  z3 := Tryz.sizeOf3
  v3 := Tryz.zeroValue3
  t4 := Tryz.underlying4
  a4 := Tryz.isAgg4
  z4 := Tryz.sizeOf4
  v4 := Tryz.zeroValue4
  t28 := Tryz.underlying52
  a28 := Tryz.isAgg52
  z28 := Tryz.sizeOf52
  v28 := Tryz.zeroValue52 }
open Go.Lib in
theorem Tryz.slices_Contains_int (b off n c : Nat) (zs : List Int) (x : Int) (w : World) (hz : n ≤ zs.length) (hbig : n ≤ 9223372036854775807) (hc : ∀ j, j < zs.length → w.cell? ⟨b, off + j, none⟩ = some (.int .i64 (zs.getD j 0))) :
    Calls Tryz.prog 139 #[.slice (some ⟨b, off, none⟩) n c, .int .i64 x] w fun e w' => e = .returned (.bool ((zs.take n).contains x)) ∧ w' = w := Any.slices_Contains_int Tryz.lays107 b off n c zs x w hz hbig hc
def Tryz.lays167_ren : Go.Shelf.Ren := ⟨fun | 167 => 223 | 240 => 245 | 276 => 255 | n => n, fun | 37 => 285 | 70 => 284 | 72 => 287 | 75 => 229 | 80 => 237 | 164 => 329 | 20 => 20 | n => n, fun n => n⟩
theorem Tryz.lays167 : Lays.n167 Tryz.prog Tryz.lays167_ren where
  mixed := by kernel_rfl
  f167 := Tryz.func223.trans (congrArg some (by kernel_rfl))
  f240 := Tryz.func245.trans (congrArg some (by kernel_rfl))
  f276 := Tryz.func255.trans (congrArg some (by kernel_rfl))
  t0 := Tryz.underlying0
  a0 := Tryz.isAgg0
  z0 := Tryz.sizeOf0
  v0 := Tryz.zeroValue0
  t4 := Tryz.underlying4
  a4 := Tryz.isAgg4
  z4 := Tryz.sizeOf4
  v4 := Tryz.zeroValue4
  t5 := Tryz.underlying5
  a5 := Tryz.isAgg5
  z5 := Tryz.sizeOf5
  v5 := Tryz.zeroValue5
  t9 := Tryz.underlying9
  a9 := Tryz.isAgg9
  z9 := Tryz.sizeOf9
  v9 := Tryz.zeroValue9
  t20 := Tryz.underlying20
  a20 := Tryz.isAgg20
  z20 := Tryz.sizeOf20
  v20 := Tryz.zeroValue20
  t37 := Tryz.underlying285
  a37 := Tryz.isAgg285
  z37 := Tryz.sizeOf285
  v37 := Tryz.zeroValue285
  t70 := Tryz.underlying284
  a70 := Tryz.isAgg284
  z70 := Tryz.sizeOf284
  v70 := Tryz.zeroValue284
  t72 := Tryz.underlying287
  a72 := Tryz.isAgg287
  z72 := Tryz.sizeOf287
  v72 := Tryz.zeroValue287
  t75 := Tryz.underlying229
  a75 := Tryz.isAgg229
  z75 := Tryz.sizeOf229
  v75 := Tryz.zeroValue229
  t164 := Tryz.underlying329
  a164 := Tryz.isAgg329
  z164 := Tryz.sizeOf329
  v164 := Tryz.zeroValue329
theorem Tryz.Builder_Extra_167 : Builder.Extra Tryz.prog Tryz.lays167_ren where
  sizeBuilder := by kernel_rfl
  liesBuilder := by kernel_rfl
  t5 := Tryz.underlying5
  a5 := Tryz.isAgg5
  z5 := Tryz.sizeOf5
  v5 := Tryz.zeroValue5
  infoByte := by kernel_rfl
  cellsByte := by kernel_rfl
  sizeByte := by kernel_rfl
  neB5 := by decide
def Tryz.lays166_ren : Go.Shelf.Ren := ⟨fun | 166 => 232 | 240 => 245 | 276 => 255 | n => n, fun | 37 => 285 | 70 => 284 | 72 => 287 | 75 => 229 | 80 => 237 | 164 => 329 | 20 => 20 | n => n, fun n => n⟩
theorem Tryz.lays166 : Lays.n166 Tryz.prog Tryz.lays166_ren where
  mixed := by kernel_rfl
  f166 := Tryz.func232.trans (congrArg some (by kernel_rfl))
  f240 := Tryz.func245.trans (congrArg some (by kernel_rfl))
  f276 := Tryz.func255.trans (congrArg some (by kernel_rfl))
  t0 := Tryz.underlying0
  a0 := Tryz.isAgg0
  z0 := Tryz.sizeOf0
  v0 := Tryz.zeroValue0
  t3 := Tryz.underlying3
  a3 := Tryz.isAgg3
  z3 := Tryz.sizeOf3
  v3 := Tryz.zeroValue3
  t4 := Tryz.underlying4
  a4 := Tryz.isAgg4
  z4 := Tryz.sizeOf4
  v4 := Tryz.zeroValue4
  t9 := Tryz.underlying9
  a9 := Tryz.isAgg9
  z9 := Tryz.sizeOf9
  v9 := Tryz.zeroValue9
  t20 := Tryz.underlying20
  a20 := Tryz.isAgg20
  z20 := Tryz.sizeOf20
  v20 := Tryz.zeroValue20
  t37 := Tryz.underlying285
  a37 := Tryz.isAgg285
  z37 := Tryz.sizeOf285
  v37 := Tryz.zeroValue285
  t70 := Tryz.underlying284
  a70 := Tryz.isAgg284
  z70 := Tryz.sizeOf284
  v70 := Tryz.zeroValue284
  t72 := Tryz.underlying287
  a72 := Tryz.isAgg287
  z72 := Tryz.sizeOf287
  v72 := Tryz.zeroValue287
  t75 := Tryz.underlying229
  a75 := Tryz.isAgg229
  z75 := Tryz.sizeOf229
  v75 := Tryz.zeroValue229
  t164 := Tryz.underlying329
  a164 := Tryz.isAgg329
  z164 := Tryz.sizeOf329
  v164 := Tryz.zeroValue329
theorem Tryz.Builder_Extra_166 : Builder.Extra Tryz.prog Tryz.lays166_ren where
  sizeBuilder := by kernel_rfl
  liesBuilder := by kernel_rfl
  t5 := Tryz.underlying5
  a5 := Tryz.isAgg5
  z5 := Tryz.sizeOf5
  v5 := Tryz.zeroValue5
  infoByte := by kernel_rfl
  cellsByte := by kernel_rfl
  sizeByte := by kernel_rfl
  neB5 := by decide
end Go.Proofs
