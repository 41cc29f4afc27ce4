/-
 DERIVED: THE SHELF's CONTRACTS AT THIS DUMP, IN PLAIN WORDS (tools/lay-plain.mjs out of 'Shelf', which tools/lay-shelf.mjs wrote): THE SAME DECLARATIONS UNDER THE SAME NAMES: 'import', 'namespace', 'open', 'def', 'theorem' AND NOTHING ELSE: no command of the shelf's: FOR A HAND-IN. Each laying: the table of numbers ('.._ren') and one theorem, a field a fact of the dump's own or the kernel's comparison; each contract: ONE APPLICATION.
-/
import Derived.Shelf.Strings.Trim
import Derived.Shelf.Small.Utf8
import Derived.Shelf.Small.Strs
import Derived.Shelf.Utf8.RuneCount
import Derived.Shelf.Strings.Search1
import Derived.Shelf.Strings.Search2
import Derived.Shelf.Strings.Search3
import Derived.Shelf.Strings.Count
import Derived.Shelf.LaysM
import Derived.Shelf.Strings.Shaped
import Derived.Shelf.Strings.Split
import Derived.Shelf.Strings.SplitShaped
import Derived.Shelf.Unicode.Decode
import Derived.Shelf.Strings.Runes
import Derived.Shelf.Strings.RuneCount
import Derived.Shelf.Strings.AsciiSet
import Derived.Shelf.Strings.Explode
import Derived.Shelf.Unicode.DecodeSlow
import Derived.Shelf.Unicode.DecodeAny
import Derived.Shelf.Unicode.DecodeLast
import Derived.Ground.SlbCloneProg
import Derived.Shelf.Bytes.SlClone
import Derived.Shelf.Bytes.IndexByte
import Derived.Test.YtbfefdedjcppaaaGreatDoorProg
namespace Go.Proofs
open Go.Shelf
def Tryz.lays162_ren : Go.Shelf.Ren := ⟨fun | 162 => 146 | 232 => 152 | 227 => 153 | 234 => 154 | 236 => 155 | 228 => 160 | 271 => 161 | 151 => 162 | 120 => 168 | 197 => 157 | 152 => 169 | 260 => 163 | 137 => 172 | 119 => 173 | 224 => 166 | 225 => 165 | 217 => 164 | 266 => 170 | n => n, fun | 9 => 9 | 4 => 4 | 3 => 3 | 5 => 5 | 117 => 234 | 116 => 233 | 0 => 0 | 124 => 237 | 21 => 21 | 105 => 238 | 46 => 198 | 119 => 243 | 139 => 246 | 138 => 245 | n => n, fun | 3 => 1 | 4 => 2 | n => n⟩
theorem Tryz.lays162 : Go.Proofs.Lays.n162 Tryz.prog Tryz.lays162_ren := {
 mixed := by kernel_rfl
 f119 := Tryz.func173.trans (congrArg some (by kernel_rfl))
 f120 := Tryz.func168.trans (congrArg some (by kernel_rfl))
 f137 := Tryz.func172.trans (congrArg some (by kernel_rfl))
 f151 := Tryz.func162.trans (congrArg some (by kernel_rfl))
 f152 := Tryz.func169.trans (congrArg some (by kernel_rfl))
 f162 := Tryz.func146.trans (congrArg some (by kernel_rfl))
 f197 := Tryz.func157.trans (congrArg some (by kernel_rfl))
 f217 := Tryz.func164.trans (congrArg some (by kernel_rfl))
 f224 := Tryz.func166.trans (congrArg some (by kernel_rfl))
 f225 := Tryz.func165.trans (congrArg some (by kernel_rfl))
 f227 := Tryz.func153.trans (congrArg some (by kernel_rfl))
 f228 := Tryz.func160.trans (congrArg some (by kernel_rfl))
 f232 := Tryz.func152.trans (congrArg some (by kernel_rfl))
 f234 := Tryz.func154.trans (congrArg some (by kernel_rfl))
 f236 := Tryz.func155.trans (congrArg some (by kernel_rfl))
 f260 := Tryz.func163.trans (congrArg some (by kernel_rfl))
 f266 := Tryz.func170.trans (congrArg some (by kernel_rfl))
 f271 := Tryz.func161.trans (congrArg some (by kernel_rfl))
 t0 := Tryz.underlying0
 a0 := Tryz.isAgg0
 z0 := Tryz.sizeOf0
 v0 := Tryz.zeroValue0
 t3 := Tryz.underlying3
 a3 := Tryz.isAgg3
 z3 := Tryz.sizeOf3
 v3 := Tryz.zeroValue3
 t4 := Tryz.underlying4
 a4 := Tryz.isAgg4
 z4 := Tryz.sizeOf4
 v4 := Tryz.zeroValue4
 t5 := Tryz.underlying5
 a5 := Tryz.isAgg5
 z5 := Tryz.sizeOf5
 v5 := Tryz.zeroValue5
 t9 := Tryz.underlying9
 a9 := Tryz.isAgg9
 z9 := Tryz.sizeOf9
 v9 := Tryz.zeroValue9
 t21 := Tryz.underlying21
 a21 := Tryz.isAgg21
 z21 := Tryz.sizeOf21
 v21 := Tryz.zeroValue21
 t46 := Tryz.underlying198
 a46 := Tryz.isAgg198
 z46 := Tryz.sizeOf198
 v46 := Tryz.zeroValue198
 t105 := Tryz.underlying238
 a105 := Tryz.isAgg238
 z105 := Tryz.sizeOf238
 v105 := Tryz.zeroValue238
 t116 := Tryz.underlying233
 a116 := Tryz.isAgg233
 z116 := Tryz.sizeOf233
 t117 := Tryz.underlying234
 a117 := Tryz.isAgg234
 z117 := Tryz.sizeOf234
 v117 := Tryz.zeroValue234
 t119 := Tryz.underlying243
 a119 := Tryz.isAgg243
 z119 := Tryz.sizeOf243
 t124 := Tryz.underlying237
 a124 := Tryz.isAgg237
 z124 := Tryz.sizeOf237
 v124 := Tryz.zeroValue237
 t138 := Tryz.underlying245
 a138 := Tryz.isAgg245
 z138 := Tryz.sizeOf245
 v138 := Tryz.zeroValue245
 t139 := Tryz.underlying246
 a139 := Tryz.isAgg246
 z139 := Tryz.sizeOf246
 v139 := Tryz.zeroValue246
 g3 := by kernel_rfl
 g4 := by kernel_rfl }
open Go.RowKit in
theorem Tryz.strings_TrimRight_one (s : ByteArray) (c : UInt8) (hc : c.toNat < 128) (w : World) (hs : s.size ≤ 9223372036854775807) :
 Calls Tryz.prog 146 #[.string s, .string ⟨#[c]⟩] w fun e w' => e = .returned (.string ⟨(Lib.trimRightB s.data.toList c).toArray⟩) ∧ w' = w := Any.strings_TrimRight_one Tryz.lays162 s c hc w hs
def Tryz.lays146_ren : Go.Shelf.Ren := ⟨fun | 146 => 124 | 221 => 145 | 268 => 149 | 138 => 150 | 143 => 151 | 195 => 156 | 197 => 157 | 218 => 158 | 219 => 159 | 260 => 163 | 217 => 164 | 225 => 165 | 224 => 166 | 267 => 167 | 266 => 170 | 314 => 171 | n => n, fun | 9 => 9 | 31 => 199 | 3 => 3 | 4 => 4 | 0 => 0 | 105 => 238 | 21 => 21 | 5 => 5 | 46 => 198 | 119 => 243 | 139 => 246 | 138 => 245 | 146 => 248 | 51 => 247 | n => n, fun | 1 => 0 | 3 => 1 | 4 => 2 | n => n⟩
theorem Tryz.lays146 : Go.Proofs.Lays.n146 Tryz.prog Tryz.lays146_ren := {
 mixed := by kernel_rfl
 f138 := Tryz.func150.trans (congrArg some (by kernel_rfl))
 f143 := Tryz.func151.trans (congrArg some (by kernel_rfl))
 f146 := Tryz.func124.trans (congrArg some (by kernel_rfl))
 f195 := Tryz.func156.trans (congrArg some (by kernel_rfl))
 f197 := Tryz.func157.trans (congrArg some (by kernel_rfl))
 f217 := Tryz.func164.trans (congrArg some (by kernel_rfl))
 f218 := Tryz.func158.trans (congrArg some (by kernel_rfl))
 f219 := Tryz.func159.trans (congrArg some (by kernel_rfl))
 f221 := Tryz.func145.trans (congrArg some (by kernel_rfl))
 f224 := Tryz.func166.trans (congrArg some (by kernel_rfl))
 f225 := Tryz.func165.trans (congrArg some (by kernel_rfl))
 f260 := Tryz.func163.trans (congrArg some (by kernel_rfl))
 f266 := Tryz.func170.trans (congrArg some (by kernel_rfl))
 f267 := Tryz.func167.trans (congrArg some (by kernel_rfl))
 f268 := Tryz.func149.trans (congrArg some (by kernel_rfl))
 f314 := Tryz.func171.trans (congrArg some (by kernel_rfl))
 t0 := Tryz.underlying0
 a0 := Tryz.isAgg0
 z0 := Tryz.sizeOf0
 v0 := Tryz.zeroValue0
 t3 := Tryz.underlying3
 a3 := Tryz.isAgg3
 z3 := Tryz.sizeOf3
 v3 := Tryz.zeroValue3
 t4 := Tryz.underlying4
 a4 := Tryz.isAgg4
 z4 := Tryz.sizeOf4
 v4 := Tryz.zeroValue4
 t5 := Tryz.underlying5
 a5 := Tryz.isAgg5
 z5 := Tryz.sizeOf5
 v5 := Tryz.zeroValue5
 t9 := Tryz.underlying9
 a9 := Tryz.isAgg9
 z9 := Tryz.sizeOf9
 v9 := Tryz.zeroValue9
 t21 := Tryz.underlying21
 a21 := Tryz.isAgg21
 z21 := Tryz.sizeOf21
 v21 := Tryz.zeroValue21
 t31 := Tryz.underlying199
 a31 := Tryz.isAgg199
 z31 := Tryz.sizeOf199
 v31 := Tryz.zeroValue199
 t46 := Tryz.underlying198
 a46 := Tryz.isAgg198
 z46 := Tryz.sizeOf198
 v46 := Tryz.zeroValue198
 t51 := Tryz.underlying247
 a51 := Tryz.isAgg247
 z51 := Tryz.sizeOf247
 v51 := Tryz.zeroValue247
 t105 := Tryz.underlying238
 a105 := Tryz.isAgg238
 z105 := Tryz.sizeOf238
 v105 := Tryz.zeroValue238
 t119 := Tryz.underlying243
 a119 := Tryz.isAgg243
 z119 := Tryz.sizeOf243
 t138 := Tryz.underlying245
 a138 := Tryz.isAgg245
 z138 := Tryz.sizeOf245
 v138 := Tryz.zeroValue245
 t139 := Tryz.underlying246
 a139 := Tryz.isAgg246
 z139 := Tryz.sizeOf246
 v139 := Tryz.zeroValue246
 t146 := Tryz.underlying248
 a146 := Tryz.isAgg248
 z146 := Tryz.sizeOf248
 v146 := Tryz.zeroValue248
 g1 := by kernel_rfl
 g3 := by kernel_rfl
 g4 := by kernel_rfl }
open Go.RowKit Go.Lib in
theorem Tryz.strings_Split (s sep : ByteArray) (m : Int) (w : World) (hs : s.size < 4294967281) (hm : w.cell? ⟨0, 0, none⟩ = some (.int .i64 m)) (h1 : 1 ≤ sep.size) :
 Calls Tryz.prog 124 #[.string s, .string sep] w fun e w' =>
   e = .returned (.slice (some ⟨w.heap.size, 0, none⟩) (Lib.countB s sep + 1) (Lib.countB s sep + 1)) ∧ w' = w.alloc (.cells ((Lib.splitB sep 0 (Lib.countB s sep) s).map Value.string).toArray 9) := Any.strings_Split Tryz.lays146 (by kernel_rfl) s sep m w hs hm h1
end Go.Proofs
