/- A part of the proof of one law: the machine on pure values and the walks of functions. -/
import Derived.Shelf.Strings.Builder1
import Derived.Shelf.Strings.Builder2
import Derived.Shelf.Small.Bits
import Derived.Shelf.Small.Strs
import Derived.Shelf.Small.Wraps
import Derived.Shelf.Strings.BuilderF
import Derived.Shelf.Utf8.RuneCount
import Derived.Shelf.Strconv.Itoa0
import Derived.Shelf.Strings.Search1
import Derived.Shelf.Strings.Search2
import Derived.Shelf.Strings.Search3
import Derived.Shelf.Strings.Count
import Derived.Shelf.LaysM
import Derived.Shelf.Strings.Shaped
import Derived.Shelf.Sort.Plain
import Derived.Shelf.Strings.LastIndex
import Derived.Shelf.Strings.Prefix
import Derived.Shelf.Strings.Split
import Derived.Shelf.Strings.SplitShaped
import Derived.Shelf.Unicode.Decode
import Derived.Shelf.Strings.RuneCount
import Derived.Shelf.Strings.Explode
import Derived.Shelf.Bits.Mul64
import Derived.Shelf.Strings.Repeat
import Derived.Shelf.Unicode.DecodeSlow
import Derived.Shelf.Unicode.DecodeAny
import Derived.Shelf.Slices.Turned
import Derived.Shelf.Slices.Equal
import Derived.Ground.Names2Prog
import Derived.Shelf.Slices.Clone
import Derived.Shelf.Slices.CompactS
import Derived.Shelf.Slices.SearchI
import Derived.Shelf.Slices.Cells
import Derived.Shelf.Slices.In.SortNone
import Derived.Shelf.Slices.Empties2
import Derived.Ground.SlgnProg
import Derived.Shelf.SlicesE.Clone
import Derived.Test.YtjoikahblpephaaGreatDoorProg
set_option linter.all false
section
namespace Go.Proofs
open Go.Shelf
def Tryz.lays213_ren : Go.Shelf.Ren := ⟨fun | 213 => 169 | 265 => 176 | n => n, fun | 9 => 9 | 3 => 3 | n => n, fun | n => n⟩
def Tryz.lays106_ren : Go.Shelf.Ren := ⟨fun | 106 => 161 | 213 => 169 | 265 => 176 | n => n, fun | 9 => 9 | 3 => 3 | n => n, fun | n => n⟩
theorem Tryz.lays106 : Go.Proofs.Lays.n106 Tryz.prog Tryz.lays106_ren := {
  mixed := by kernel_rfl
  f106 := Tryz.func161.trans (congrArg some (by kernel_rfl))
  f213 := Tryz.func169.trans (congrArg some (by kernel_rfl))
  f265 := Tryz.func176.trans (congrArg some (by kernel_rfl))
  t3 := Tryz.underlying3
  a3 := Tryz.isAgg3
  z3 := Tryz.sizeOf3
  v3 := Tryz.zeroValue3
  t9 := Tryz.underlying9
  a9 := Tryz.isAgg9
  z9 := Tryz.sizeOf9
  v9 := Tryz.zeroValue9 }
open Go.RowKit in
theorem Tryz.strings_Compare (a b : ByteArray) (w : World) :
    Calls Tryz.prog 161 #[.string a, .string b] w fun e w' => e = .returned (.int .i64 (Lib.compareBytes a.data.toList b.data.toList)) ∧ w' = w := Any.strings_Compare Tryz.lays106 a b w
def Tryz.lays219_ren : Go.Shelf.Ren := ⟨fun | 219 => 166 | 217 => 172 | 225 => 173 | 224 => 174 | 267 => 175 | 266 => 179 | 314 => 180 | n => n, fun | 9 => 9 | 3 => 3 | 4 => 4 | 5 => 5 | 46 => 93 | 146 => 154 | 51 => 119 | n => n, fun | 1 => 0 | n => n⟩
def Tryz.lays144_ren : Go.Shelf.Ren := ⟨fun | 144 => 158 | 143 => 156 | 219 => 166 | 217 => 172 | 225 => 173 | 224 => 174 | 267 => 175 | 266 => 179 | 314 => 180 | n => n, fun | 9 => 9 | 4 => 4 | 3 => 3 | 5 => 5 | 46 => 93 | 146 => 154 | 51 => 119 | n => n, fun | 1 => 0 | n => n⟩
theorem Tryz.lays144 : Go.Proofs.Lays.n144 Tryz.prog Tryz.lays144_ren := {
  mixed := by kernel_rfl
  f143 := Tryz.func156.trans (congrArg some (by kernel_rfl))
  f144 := Tryz.func158.trans (congrArg some (by kernel_rfl))
  f217 := Tryz.func172.trans (congrArg some (by kernel_rfl))
  f219 := Tryz.func166.trans (congrArg some (by kernel_rfl))
  f224 := Tryz.func174.trans (congrArg some (by kernel_rfl))
  f225 := Tryz.func173.trans (congrArg some (by kernel_rfl))
  f266 := Tryz.func179.trans (congrArg some (by kernel_rfl))
  f267 := Tryz.func175.trans (congrArg some (by kernel_rfl))
  f314 := Tryz.func180.trans (congrArg some (by kernel_rfl))
  t3 := Tryz.underlying3
  a3 := Tryz.isAgg3
  z3 := Tryz.sizeOf3
  v3 := Tryz.zeroValue3
  t4 := Tryz.underlying4
  a4 := Tryz.isAgg4
  z4 := Tryz.sizeOf4
  v4 := Tryz.zeroValue4
  t5 := Tryz.underlying5
  a5 := Tryz.isAgg5
  z5 := Tryz.sizeOf5
  v5 := Tryz.zeroValue5
  t9 := Tryz.underlying9
  a9 := Tryz.isAgg9
  z9 := Tryz.sizeOf9
  v9 := Tryz.zeroValue9
  t46 := Tryz.underlying93
  a46 := Tryz.isAgg93
  z46 := Tryz.sizeOf93
  v46 := Tryz.zeroValue93
  t51 := Tryz.underlying119
  a51 := Tryz.isAgg119
  z51 := Tryz.sizeOf119
  v51 := Tryz.zeroValue119
  t146 := Tryz.underlying154
  a146 := Tryz.isAgg154
  z146 := Tryz.sizeOf154
  v146 := Tryz.zeroValue154
  g1 := by kernel_rfl }
open Go.RowKit Go.Lib in
theorem Tryz.strings_Contains_one (s : ByteArray) (c : UInt8) (w : World) :
    Calls Tryz.prog 158 #[.string s, .string ⟨#[c]⟩] w fun e w' => e = .returned (.bool (decide (0 ≤ Lib.indexByte s.data.toList c))) ∧ w' = w := Any.strings_Contains_one Tryz.lays144 s c w
def Tryz.lays190_ren : Go.Shelf.Ren := ⟨fun | 190 => 41 | 125 => 70 | 258 => 69 | 128 => 101 | 129 => 102 | 302 => 92 | 303 => 93 | 304 => 94 | 305 => 95 | 306 => 96 | 307 => 97 | 308 => 98 | 309 => 99 | 310 => 100 | 333 => 129 | 329 => 130 | 330 => 131 | 334 => 132 | 335 => 133 | 336 => 134 | 344 => 151 | n => n, fun | 31 => 26 | 9 => 9 | 3 => 3 | 46 => 93 | 0 => 0 | 51 => 119 | 53 => 121 | 4 => 4 | 183 => 112 | 182 => 111 | 131 => 57 | 5 => 5 | 218 => 148 | 222 => 152 | 228 => 162 | 229 => 163 | n => n, fun | n => n⟩
theorem Tryz.lays190 : Go.Proofs.Lays.n190 Tryz.prog Tryz.lays190_ren := {
  mixed := by kernel_rfl
  f125 := Tryz.func70.trans (congrArg some (by kernel_rfl))
  f128 := Tryz.func101.trans (congrArg some (by kernel_rfl))
  f129 := Tryz.func102.trans (congrArg some (by kernel_rfl))
  f190 := Tryz.func41.trans (congrArg some (by kernel_rfl))
  f258 := Tryz.func69.trans (congrArg some (by kernel_rfl))
  f302 := Tryz.func92.trans (congrArg some (by kernel_rfl))
  f303 := Tryz.func93.trans (congrArg some (by kernel_rfl))
  f304 := Tryz.func94.trans (congrArg some (by kernel_rfl))
  f305 := Tryz.func95.trans (congrArg some (by kernel_rfl))
  f306 := Tryz.func96.trans (congrArg some (by kernel_rfl))
  f307 := Tryz.func97.trans (congrArg some (by kernel_rfl))
  f308 := Tryz.func98.trans (congrArg some (by kernel_rfl))
  f309 := Tryz.func99.trans (congrArg some (by kernel_rfl))
  f310 := Tryz.func100.trans (congrArg some (by kernel_rfl))
  f329 := Tryz.func130.trans (congrArg some (by kernel_rfl))
  f330 := Tryz.func131.trans (congrArg some (by kernel_rfl))
  f333 := Tryz.func129.trans (congrArg some (by kernel_rfl))
  f334 := Tryz.func132.trans (congrArg some (by kernel_rfl))
  f335 := Tryz.func133.trans (congrArg some (by kernel_rfl))
  f336 := Tryz.func134.trans (congrArg some (by kernel_rfl))
  f344 := Tryz.func151.trans (congrArg some (by kernel_rfl))
  t0 := Tryz.underlying0
  a0 := Tryz.isAgg0
  z0 := Tryz.sizeOf0
  v0 := Tryz.zeroValue0
  t3 := Tryz.underlying3
  a3 := Tryz.isAgg3
  z3 := Tryz.sizeOf3
  v3 := Tryz.zeroValue3
  t4 := Tryz.underlying4
  a4 := Tryz.isAgg4
  z4 := Tryz.sizeOf4
  v4 := Tryz.zeroValue4
  t5 := Tryz.underlying5
  a5 := Tryz.isAgg5
  z5 := Tryz.sizeOf5
  v5 := Tryz.zeroValue5
  t9 := Tryz.underlying9
  a9 := Tryz.isAgg9
  z9 := Tryz.sizeOf9
  v9 := Tryz.zeroValue9
  t31 := Tryz.underlying26
  a31 := Tryz.isAgg26
  z31 := Tryz.sizeOf26
  v31 := Tryz.zeroValue26
  t46 := Tryz.underlying93
  a46 := Tryz.isAgg93
  z46 := Tryz.sizeOf93
  v46 := Tryz.zeroValue93
  t51 := Tryz.underlying119
  a51 := Tryz.isAgg119
  z51 := Tryz.sizeOf119
  v51 := Tryz.zeroValue119
  t53 := Tryz.underlying121
  a53 := Tryz.isAgg121
  z53 := Tryz.sizeOf121
  v53 := Tryz.zeroValue121
  t131 := Tryz.underlying57
  a131 := Tryz.isAgg57
  z131 := Tryz.sizeOf57
  v131 := Tryz.zeroValue57
  t182 := Tryz.underlying111
  a182 := Tryz.isAgg111
  z182 := Tryz.sizeOf111
  v182 := Tryz.zeroValue111
  t183 := Tryz.underlying112
  a183 := Tryz.isAgg112
  z183 := Tryz.sizeOf112
  v183 := Tryz.zeroValue112
  t218 := Tryz.underlying148
  a218 := Tryz.isAgg148
  z218 := Tryz.sizeOf148
  v218 := Tryz.zeroValue148
  t222 := Tryz.underlying152
  a222 := Tryz.isAgg152
  z222 := Tryz.sizeOf152
  v222 := Tryz.zeroValue152
  t228 := Tryz.underlying162
  a228 := Tryz.isAgg162
  z228 := Tryz.sizeOf162
  v228 := Tryz.zeroValue162
  t229 := Tryz.underlying163
  a229 := Tryz.isAgg163
  z229 := Tryz.sizeOf163
  v229 := Tryz.zeroValue163 }
open Go.Sort Go.RowKit in
theorem Tryz.slices_Sort_string (blk off cap : Nat) (ss : List (List UInt8)) (w : World) (hH : Holds encStr w blk off ss.toArray) (hblk : blk < w.heap.size) (hsz : ss.length < 4611686018427387904) :
    Calls Tryz.prog 41 #[.slice (some ⟨blk, off, none⟩) ss.length cap] w fun e w' =>
      e = .returned (.tuple #[]) ∧ ∃ n os, w' = grow (putRow encStr (Sort.ahead w n) blk off (ss.mergeSort fun x y => decide (x ≤ y)).toArray) os := Any.slices_Sort_string Tryz.lays190 blk off cap ss w hH hblk hsz
def Tryz.lays222_ren : Go.Shelf.Ren := ⟨fun | 222 => 68 | n => n, fun | 9 => 9 | 5 => 5 | 3 => 3 | 4 => 4 | n => n, fun | n => n⟩
def Tryz.lays149_ren : Go.Shelf.Ren := ⟨fun | 149 => 36 | 222 => 68 | n => n, fun | 9 => 9 | 5 => 5 | 3 => 3 | 4 => 4 | n => n, fun | n => n⟩
theorem Tryz.lays149 : Go.Proofs.Lays.n149 Tryz.prog Tryz.lays149_ren := {
  mixed := by kernel_rfl
  f149 := Tryz.func36.trans (congrArg some (by kernel_rfl))
  f222 := Tryz.func68.trans (congrArg some (by kernel_rfl))
  t3 := Tryz.underlying3
  a3 := Tryz.isAgg3
  z3 := Tryz.sizeOf3
  v3 := Tryz.zeroValue3
  t4 := Tryz.underlying4
  a4 := Tryz.isAgg4
  z4 := Tryz.sizeOf4
  v4 := Tryz.zeroValue4
  t5 := Tryz.underlying5
  a5 := Tryz.isAgg5
  z5 := Tryz.sizeOf5
  v5 := Tryz.zeroValue5
  t9 := Tryz.underlying9
  a9 := Tryz.isAgg9
  z9 := Tryz.sizeOf9
  v9 := Tryz.zeroValue9 }
open Go.RowKit Go.Lib in
theorem Tryz.strings_LastIndexByte (s : ByteArray) (c : Int) (hs : s.size < 4611686018427387904) (w : World) :
    Calls Tryz.prog 36 #[.string s, .int .u8 c] w fun e w' => e = .returned (.int .i64 (Lib.lastIndexByte s c)) ∧ w' = w := Any.strings_LastIndexByte Tryz.lays149 s c hs w
def Tryz.lays206_ren : Go.Shelf.Ren := ⟨fun | 206 => 137 | n => n, fun | 9 => 9 | 4 => 4 | 3 => 3 | n => n, fun | n => n⟩
def Tryz.lays101_ren : Go.Shelf.Ren := ⟨fun | 101 => 160 | 208 => 168 | 206 => 137 | n => n, fun | 9 => 9 | 4 => 4 | 3 => 3 | n => n, fun | n => n⟩
theorem Tryz.lays101 : Go.Proofs.Lays.n101 Tryz.prog Tryz.lays101_ren := {
  mixed := by kernel_rfl
  f101 := Tryz.func160.trans (congrArg some (by kernel_rfl))
  f206 := Tryz.func137.trans (congrArg some (by kernel_rfl))
  f208 := Tryz.func168.trans (congrArg some (by kernel_rfl))
  t3 := Tryz.underlying3
  a3 := Tryz.isAgg3
  z3 := Tryz.sizeOf3
  v3 := Tryz.zeroValue3
  t4 := Tryz.underlying4
  a4 := Tryz.isAgg4
  z4 := Tryz.sizeOf4
  v4 := Tryz.zeroValue4
  t9 := Tryz.underlying9
  a9 := Tryz.isAgg9
  z9 := Tryz.sizeOf9
  v9 := Tryz.zeroValue9 }
open Go.RowKit Go.Lib in
theorem Tryz.strings_TrimPrefix (s p : ByteArray) (w : World) :
    Calls Tryz.prog 160 #[.string s, .string p] w fun e w' => e = .returned (.string ⟨(Lib.trimPrefix s.data.toList p.data.toList).toArray⟩) ∧ w' = w := Any.strings_TrimPrefix Tryz.lays101 s p w
def Tryz.lays221_ren : Go.Shelf.Ren := ⟨fun | 221 => 140 | 268 => 154 | 138 => 155 | 143 => 156 | 195 => 163 | 197 => 164 | 218 => 165 | 219 => 166 | 260 => 171 | 217 => 172 | 225 => 173 | 224 => 174 | 267 => 175 | 266 => 179 | 314 => 180 | n => n, fun | 9 => 9 | 3 => 3 | 31 => 26 | 4 => 4 | 0 => 0 | 105 => 173 | 21 => 21 | 5 => 5 | 46 => 93 | 119 => 177 | 139 => 180 | 138 => 179 | 146 => 154 | 51 => 119 | n => n, fun | 1 => 0 | 3 => 1 | 4 => 2 | n => n⟩
def Tryz.lays146_ren : Go.Shelf.Ren := ⟨fun | 146 => 110 | 221 => 140 | 268 => 154 | 138 => 155 | 143 => 156 | 195 => 163 | 197 => 164 | 218 => 165 | 219 => 166 | 260 => 171 | 217 => 172 | 225 => 173 | 224 => 174 | 267 => 175 | 266 => 179 | 314 => 180 | n => n, fun | 9 => 9 | 31 => 26 | 3 => 3 | 4 => 4 | 0 => 0 | 105 => 173 | 21 => 21 | 5 => 5 | 46 => 93 | 119 => 177 | 139 => 180 | 138 => 179 | 146 => 154 | 51 => 119 | n => n, fun | 1 => 0 | 3 => 1 | 4 => 2 | n => n⟩
theorem Tryz.lays146 : Go.Proofs.Lays.n146 Tryz.prog Tryz.lays146_ren := {
  mixed := by kernel_rfl
  f138 := Tryz.func155.trans (congrArg some (by kernel_rfl))
  f143 := Tryz.func156.trans (congrArg some (by kernel_rfl))
  f146 := Tryz.func110.trans (congrArg some (by kernel_rfl))
  f195 := Tryz.func163.trans (congrArg some (by kernel_rfl))
  f197 := Tryz.func164.trans (congrArg some (by kernel_rfl))
  f217 := Tryz.func172.trans (congrArg some (by kernel_rfl))
  f218 := Tryz.func165.trans (congrArg some (by kernel_rfl))
  f219 := Tryz.func166.trans (congrArg some (by kernel_rfl))
  f221 := Tryz.func140.trans (congrArg some (by kernel_rfl))
  f224 := Tryz.func174.trans (congrArg some (by kernel_rfl))
  f225 := Tryz.func173.trans (congrArg some (by kernel_rfl))
  f260 := Tryz.func171.trans (congrArg some (by kernel_rfl))
  f266 := Tryz.func179.trans (congrArg some (by kernel_rfl))
  f267 := Tryz.func175.trans (congrArg some (by kernel_rfl))
  f268 := Tryz.func154.trans (congrArg some (by kernel_rfl))
  f314 := Tryz.func180.trans (congrArg some (by kernel_rfl))
  t0 := Tryz.underlying0
  a0 := Tryz.isAgg0
  z0 := Tryz.sizeOf0
  v0 := Tryz.zeroValue0
  t3 := Tryz.underlying3
  a3 := Tryz.isAgg3
  z3 := Tryz.sizeOf3
  v3 := Tryz.zeroValue3
  t4 := Tryz.underlying4
  a4 := Tryz.isAgg4
  z4 := Tryz.sizeOf4
  v4 := Tryz.zeroValue4
  t5 := Tryz.underlying5
  a5 := Tryz.isAgg5
  z5 := Tryz.sizeOf5
  v5 := Tryz.zeroValue5
  t9 := Tryz.underlying9
  a9 := Tryz.isAgg9
  z9 := Tryz.sizeOf9
  v9 := Tryz.zeroValue9
  t21 := Tryz.underlying21
  a21 := Tryz.isAgg21
  z21 := Tryz.sizeOf21
  v21 := Tryz.zeroValue21
  t31 := Tryz.underlying26
  a31 := Tryz.isAgg26
  z31 := Tryz.sizeOf26
  v31 := Tryz.zeroValue26
  t46 := Tryz.underlying93
  a46 := Tryz.isAgg93
  z46 := Tryz.sizeOf93
  v46 := Tryz.zeroValue93
  t51 := Tryz.underlying119
  a51 := Tryz.isAgg119
  z51 := Tryz.sizeOf119
  v51 := Tryz.zeroValue119
  t105 := Tryz.underlying173
  a105 := Tryz.isAgg173
  z105 := Tryz.sizeOf173
  v105 := Tryz.zeroValue173
  t119 := Tryz.underlying177
  a119 := Tryz.isAgg177
  z119 := Tryz.sizeOf177
  t138 := Tryz.underlying179
  a138 := Tryz.isAgg179
  z138 := Tryz.sizeOf179
  v138 := Tryz.zeroValue179
  t139 := Tryz.underlying180
  a139 := Tryz.isAgg180
  z139 := Tryz.sizeOf180
  v139 := Tryz.zeroValue180
  t146 := Tryz.underlying154
  a146 := Tryz.isAgg154
  z146 := Tryz.sizeOf154
  v146 := Tryz.zeroValue154
  g1 := by kernel_rfl
  g3 := by kernel_rfl
  g4 := by kernel_rfl }
open Go.RowKit Go.Lib in
theorem Tryz.strings_Split (s sep : ByteArray) (m : Int) (w : World) (hs : s.size < 4294967281) (hm : w.cell? ⟨0, 0, none⟩ = some (.int .i64 m)) (h1 : 1 ≤ sep.size) :
    Calls Tryz.prog 110 #[.string s, .string sep] w fun e w' =>
      e = .returned (.slice (some ⟨w.heap.size, 0, none⟩) (Lib.countB s sep + 1) (Lib.countB s sep + 1)) ∧ w' = w.alloc (.cells ((Lib.splitB sep 0 (Lib.countB s sep) s).map Value.string).toArray 9) := Any.strings_Split Tryz.lays146 (by kernel_rfl) s sep m w hs hm h1
def Tryz.lays197_ren : Go.Shelf.Ren := ⟨fun | 197 => 164 | 260 => 171 | n => n, fun | 9 => 9 | 21 => 21 | 3 => 3 | 4 => 4 | 5 => 5 | 105 => 173 | 119 => 177 | 0 => 0 | 46 => 93 | 139 => 180 | 138 => 179 | n => n, fun | 3 => 1 | 4 => 2 | n => n⟩
theorem Tryz.lays197 : Go.Proofs.Lays.n197 Tryz.prog Tryz.lays197_ren := {
  mixed := by kernel_rfl
  f197 := Tryz.func164.trans (congrArg some (by kernel_rfl))
  f260 := Tryz.func171.trans (congrArg some (by kernel_rfl))
  t0 := Tryz.underlying0
  a0 := Tryz.isAgg0
  z0 := Tryz.sizeOf0
  v0 := Tryz.zeroValue0
  t3 := Tryz.underlying3
  a3 := Tryz.isAgg3
  z3 := Tryz.sizeOf3
  v3 := Tryz.zeroValue3
  t4 := Tryz.underlying4
  a4 := Tryz.isAgg4
  z4 := Tryz.sizeOf4
  v4 := Tryz.zeroValue4
  t5 := Tryz.underlying5
  a5 := Tryz.isAgg5
  z5 := Tryz.sizeOf5
  v5 := Tryz.zeroValue5
  t9 := Tryz.underlying9
  a9 := Tryz.isAgg9
  z9 := Tryz.sizeOf9
  v9 := Tryz.zeroValue9
  t21 := Tryz.underlying21
  a21 := Tryz.isAgg21
  z21 := Tryz.sizeOf21
  v21 := Tryz.zeroValue21
  t46 := Tryz.underlying93
  a46 := Tryz.isAgg93
  z46 := Tryz.sizeOf93
  v46 := Tryz.zeroValue93
  t105 := Tryz.underlying173
  a105 := Tryz.isAgg173
  z105 := Tryz.sizeOf173
  v105 := Tryz.zeroValue173
  t119 := Tryz.underlying177
  a119 := Tryz.isAgg177
  z119 := Tryz.sizeOf177
  t138 := Tryz.underlying179
  a138 := Tryz.isAgg179
  z138 := Tryz.sizeOf179
  v138 := Tryz.zeroValue179
  t139 := Tryz.underlying180
  a139 := Tryz.isAgg180
  z139 := Tryz.sizeOf180
  v139 := Tryz.zeroValue180
  g3 := by kernel_rfl
  g4 := by kernel_rfl }
def Tryz.lays105_ren : Go.Shelf.Ren := ⟨fun | 105 => 74 | 212 => 104 | 99 => 105 | 165 => 106 | 166 => 107 | 170 => 108 | 169 => 109 | 263 => 135 | 264 => 136 | 206 => 137 | 240 => 138 | 241 => 139 | 276 => 152 | 277 => 153 | n => n, fun | 9 => 9 | 3 => 3 | 4 => 4 | 20 => 20 | 0 => 0 | 46 => 93 | 109 => 123 | 5 => 5 | 72 => 127 | 76 => 131 | 51 => 119 | 146 => 154 | 53 => 121 | 148 => 156 | 70 => 125 | 37 => 55 | 75 => 130 | 127 => 158 | 164 => 165 | 80 => 134 | n => n, fun | n => n⟩
theorem Tryz.lays105 : Go.Proofs.Lays.n105 Tryz.prog Tryz.lays105_ren := {
  mixed := by kernel_rfl
  f99 := Tryz.func105.trans (congrArg some (by kernel_rfl))
  f105 := Tryz.func74.trans (congrArg some (by kernel_rfl))
  f165 := Tryz.func106.trans (congrArg some (by kernel_rfl))
  f166 := Tryz.func107.trans (congrArg some (by kernel_rfl))
  f169 := Tryz.func109.trans (congrArg some (by kernel_rfl))
  f170 := Tryz.func108.trans (congrArg some (by kernel_rfl))
  f206 := Tryz.func137.trans (congrArg some (by kernel_rfl))
  f212 := Tryz.func104.trans (congrArg some (by kernel_rfl))
  f240 := Tryz.func138.trans (congrArg some (by kernel_rfl))
  f241 := Tryz.func139.trans (congrArg some (by kernel_rfl))
  f263 := Tryz.func135.trans (congrArg some (by kernel_rfl))
  f264 := Tryz.func136.trans (congrArg some (by kernel_rfl))
  f276 := Tryz.func152.trans (congrArg some (by kernel_rfl))
  f277 := Tryz.func153.trans (congrArg some (by kernel_rfl))
  t0 := Tryz.underlying0
  a0 := Tryz.isAgg0
  z0 := Tryz.sizeOf0
  v0 := Tryz.zeroValue0
  t3 := Tryz.underlying3
  a3 := Tryz.isAgg3
  z3 := Tryz.sizeOf3
  v3 := Tryz.zeroValue3
  t4 := Tryz.underlying4
  a4 := Tryz.isAgg4
  z4 := Tryz.sizeOf4
  v4 := Tryz.zeroValue4
  t5 := Tryz.underlying5
  a5 := Tryz.isAgg5
  z5 := Tryz.sizeOf5
  v5 := Tryz.zeroValue5
  t9 := Tryz.underlying9
  a9 := Tryz.isAgg9
  z9 := Tryz.sizeOf9
  v9 := Tryz.zeroValue9
  t20 := Tryz.underlying20
  a20 := Tryz.isAgg20
  z20 := Tryz.sizeOf20
  v20 := Tryz.zeroValue20
  t37 := Tryz.underlying55
  a37 := Tryz.isAgg55
  z37 := Tryz.sizeOf55
  v37 := Tryz.zeroValue55
  t46 := Tryz.underlying93
  a46 := Tryz.isAgg93
  z46 := Tryz.sizeOf93
  v46 := Tryz.zeroValue93
  t51 := Tryz.underlying119
  a51 := Tryz.isAgg119
  z51 := Tryz.sizeOf119
  v51 := Tryz.zeroValue119
  t53 := Tryz.underlying121
  a53 := Tryz.isAgg121
  z53 := Tryz.sizeOf121
  v53 := Tryz.zeroValue121
  t70 := Tryz.underlying125
  a70 := Tryz.isAgg125
  z70 := Tryz.sizeOf125
  v70 := Tryz.zeroValue125
  t72 := Tryz.underlying127
  a72 := Tryz.isAgg127
  z72 := Tryz.sizeOf127
  v72 := Tryz.zeroValue127
  t75 := Tryz.underlying130
  a75 := Tryz.isAgg130
  z75 := Tryz.sizeOf130
  v75 := Tryz.zeroValue130
  t76 := Tryz.underlying131
  a76 := Tryz.isAgg131
  z76 := Tryz.sizeOf131
  v76 := Tryz.zeroValue131
  t109 := Tryz.underlying123
  a109 := Tryz.isAgg123
  z109 := Tryz.sizeOf123
  v109 := Tryz.zeroValue123
  t127 := Tryz.underlying158
  a127 := Tryz.isAgg158
  z127 := Tryz.sizeOf158
  v127 := Tryz.zeroValue158
  t146 := Tryz.underlying154
  a146 := Tryz.isAgg154
  z146 := Tryz.sizeOf154
  v146 := Tryz.zeroValue154
  t148 := Tryz.underlying156
  a148 := Tryz.isAgg156
  z148 := Tryz.sizeOf156
  v148 := Tryz.zeroValue156
  t164 := Tryz.underlying165
  a164 := Tryz.isAgg165
  z164 := Tryz.sizeOf165
  v164 := Tryz.zeroValue165 }
theorem Tryz.Builder_Extra_105 : Builder.Extra Tryz.prog Tryz.lays105_ren := {
  sizeBuilder := by kernel_rfl
  liesBuilder := by kernel_rfl
  t5 := Tryz.underlying5
  a5 := Tryz.isAgg5
  z5 := Tryz.sizeOf5
  v5 := Tryz.zeroValue5
  infoByte := by kernel_rfl
  cellsByte := by kernel_rfl
  sizeByte := by kernel_rfl
  neB5 := by decide }
open Go.RowKit Go.Lib in
theorem Tryz.strings_Repeat (s : ByteArray) (c : Nat) (w : World) (hc : c ≤ 9223372036854775807) (hlen : s.size * c ≤ 140737488355328) :
    Calls Tryz.prog 74 #[.string s, .int .i64 c] w fun e w' => e = .returned (.string ⟨(Lib.repeatL s.data.toList c).toArray⟩) ∧ Below w.heap.size w w' := Any.strings_Repeat Tryz.lays105 Tryz.Builder_Extra_105 s c w hc hlen
open Go.RowKit Go.Lib in
theorem Tryz.utf8_DecodeRuneInString (s : ByteArray) (w : World) (hT : Lib.Utf8Tabs 1 2 w) :
    Calls Tryz.prog 164 #[.string s] w fun e w' => e = .returned (.tuple #[.int .i32 (Lib.decodeGo s).1, .int .i64 (Lib.decodeGo s).2]) ∧ Below w.heap.size w w' := Any.utf8_DecodeRuneInString Tryz.lays197 s w hT
open Go.RowKit Go.Sort in
theorem Tryz.slices_Sort_string_none (p : Option Addr) (cap : Nat) (w : World) :
    Calls Tryz.prog 41 #[.slice p 0 cap] w fun e w' => e = .returned (.tuple #[]) ∧ w' = w := Any.slices_Sort_string_none Tryz.lays190 p cap w
end Go.Proofs
end
