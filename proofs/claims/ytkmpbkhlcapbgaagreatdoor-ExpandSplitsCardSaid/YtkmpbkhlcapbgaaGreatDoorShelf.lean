/-
  DERIVED: THE SHELF's CONTRACTS AT THIS DUMP, IN PLAIN WORDS (tools/lay-plain.mjs out of 'TryzShelf.lean', which tools/lay-shelf.mjs wrote): THE SAME DECLARATIONS UNDER THE SAME NAMES: 'import', 'namespace', 'open', 'def', 'theorem' AND NOTHING ELSE: no command of the shelf's: FOR A HAND-IN. Each laying: the table of numbers ('.._ren') and one theorem, a field a fact of the dump's own or the kernel's comparison; each contract: ONE APPLICATION.
-/
import Derived.Shelf.Strings.Builder1
import Derived.Shelf.Strings.Builder2
import Derived.Shelf.Strings.OnBuilder
import Derived.Shelf.Strings.Trim
import Derived.Shelf.Small.Utf8
import Derived.Shelf.Small.Strs
import Derived.Shelf.Small.Wraps
import Derived.Shelf.Strings.BuilderF
import Derived.Shelf.Strings.BuilderK
import Derived.Shelf.Strings.BuilderRune
import Derived.Shelf.Utf8.AppendRune
import Derived.Shelf.Utf8.AppendRunePlain
import Derived.Shelf.Strings.Builder2Cap
import Derived.Shelf.Strconv.Atoi
import Derived.Shelf.Strconv.Itoa0
import Derived.Shelf.Strconv.Itoa1
import Derived.Shelf.LaysM
import Derived.Shelf.Strconv.Itoa2
import Derived.Shelf.Strconv.Itoa3
import Derived.Shelf.Strconv.AtoiErrFast
import Derived.Shelf.Strconv.ParseIntEmpty
import Derived.Shelf.Strconv.AtoiFail
import Derived.Shelf.Strconv.Clone
import Derived.Shelf.Strconv.SyntaxError
import Derived.Shelf.LaysC
import Derived.Shelf.Strconv.ToError
import Derived.Shelf.Strconv.AtoiErr
import Derived.Shelf.Strconv.ErrVar
import Derived.Shelf.Strconv.Lower
import Derived.Shelf.Strconv.ParseUint10
import Derived.Shelf.Strconv.ParseUint10Empty
import Derived.Shelf.Strconv.ParseUint10Any
import Derived.Shelf.Strconv.ParseInt10
import Derived.Shelf.Strconv.AtoiLong
import Derived.Shelf.Strconv.AtoiInnerAll
import Derived.Shelf.Strconv.RangeError
import Derived.Shelf.Strconv.ToErrorRange
import Derived.Shelf.Strconv.AtoiAll
import Derived.Shelf.Strconv.ErrVarAll
import Derived.Shelf.Strconv.ParseUintEmpty
import Derived.Shelf.Strconv.ParseUint10b64
import Derived.Shelf.Strconv.ParseUint10b32
import Derived.Shelf.Strconv.ParseUint10b16
import Derived.Shelf.Strconv.ParseUint10b8
import Derived.Shelf.Strconv.ParseUint10At
import Derived.Shelf.Strconv.ParseInt10At64
import Derived.Shelf.Strconv.ParseInt10At32
import Derived.Shelf.Strconv.ParseInt10At16
import Derived.Shelf.Strconv.ParseInt10At8
import Derived.Shelf.Strconv.ParseInt10All
import Derived.Shelf.Strconv.ParseIntPublic10
import Derived.Shelf.Strconv.ErrVarParseInt
import Derived.Shelf.Strings.Search1
import Derived.Shelf.Strings.Search2
import Derived.Shelf.Strings.Search3
import Derived.Shelf.Strings.Cut
import Derived.Shelf.Strings.Count
import Derived.Shelf.Strings.Shaped
import Derived.Shelf.Strings.Prefix
import Derived.Shelf.Strings.Split
import Derived.Shelf.Strings.Replace
import Derived.Shelf.Unicode.Latin
import Derived.Shelf.Strings.Runes
import Derived.Shelf.Strings.IndexAny
import Derived.Shelf.Strings.AsciiSet
import Derived.Shelf.Strings.IndexAnyAll
import Derived.Shelf.Bits.Mul64
import Derived.Shelf.Strings.Repeat
import Derived.Shelf.Unicode.DecodeSlow
import Derived.Shelf.Unicode.DecodeAny
import Derived.Shelf.Unicode.CaseLookup
import Derived.Shelf.Unicode.CaseConvert
import Derived.Shelf.Unicode.CaseTo
import Derived.Shelf.Unicode.CaseLaid
import Derived.Shelf.Strings.MapAny
import Derived.Shelf.Strings.CaseAny
import Derived.Shelf.Strings.BuilderCap
import Derived.Shelf.Strings.MapGrows
import Derived.Test.YtkmpbkhlcapbgaaGreatDoorProg
namespace Go.Proofs
open Go.Shelf
def Tryz.lays161_ren : Go.Shelf.Ren := ⟨fun | 161 => 133 | 231 => 156 | 227 => 158 | 233 => 159 | 235 => 161 | 228 => 179 | 197 => 176 | 151 => 180 | 260 => 203 | 152 => 207 | 137 => 48 | 119 => 215 | 224 => 198 | 225 => 197 | 217 => 76 | 266 => 105 | n => n, fun | 9 => 9 | 4 => 4 | 3 => 3 | 5 => 5 | 117 => 202 | 116 => 201 | 0 => 0 | 124 => 205 | 105 => 219 | 21 => 21 | 119 => 250 | 46 => 126 | 139 => 253 | 138 => 252 | n => n, fun | 3 => 9 | 4 => 10 | n => n⟩
theorem Tryz.lays161 : Go.Proofs.Lays.n161 Tryz.prog Tryz.lays161_ren := {
  mixed := by kernel_rfl
  f119 := Tryz.func215.trans (congrArg some (by kernel_rfl))
  f137 := Tryz.func48.trans (congrArg some (by kernel_rfl))
  f151 := Tryz.func180.trans (congrArg some (by kernel_rfl))
  f152 := Tryz.func207.trans (congrArg some (by kernel_rfl))
  f161 := Tryz.func133.trans (congrArg some (by kernel_rfl))
  f197 := Tryz.func176.trans (congrArg some (by kernel_rfl))
  f217 := Tryz.func76.trans (congrArg some (by kernel_rfl))
  f224 := Tryz.func198.trans (congrArg some (by kernel_rfl))
  f225 := Tryz.func197.trans (congrArg some (by kernel_rfl))
  f227 := Tryz.func158.trans (congrArg some (by kernel_rfl))
  f228 := Tryz.func179.trans (congrArg some (by kernel_rfl))
  f231 := Tryz.func156.trans (congrArg some (by kernel_rfl))
  f233 := Tryz.func159.trans (congrArg some (by kernel_rfl))
  f235 := Tryz.func161.trans (congrArg some (by kernel_rfl))
  f260 := Tryz.func203.trans (congrArg some (by kernel_rfl))
  f266 := Tryz.func105.trans (congrArg some (by kernel_rfl))
  t0 := Tryz.underlying0
  a0 := Tryz.isAgg0
  z0 := Tryz.sizeOf0
  v0 := Tryz.zeroValue0
  t3 := Tryz.underlying3
  a3 := Tryz.isAgg3
  z3 := Tryz.sizeOf3
  v3 := Tryz.zeroValue3
  t4 := Tryz.underlying4
  a4 := Tryz.isAgg4
  z4 := Tryz.sizeOf4
  v4 := Tryz.zeroValue4
  t5 := Tryz.underlying5
  a5 := Tryz.isAgg5
  z5 := Tryz.sizeOf5
  v5 := Tryz.zeroValue5
  t9 := Tryz.underlying9
  a9 := Tryz.isAgg9
  z9 := Tryz.sizeOf9
  v9 := Tryz.zeroValue9
  t21 := Tryz.underlying21
  a21 := Tryz.isAgg21
  z21 := Tryz.sizeOf21
  v21 := Tryz.zeroValue21
  t46 := Tryz.underlying126
  a46 := Tryz.isAgg126
  z46 := Tryz.sizeOf126
  v46 := Tryz.zeroValue126
  t105 := Tryz.underlying219
  a105 := Tryz.isAgg219
  z105 := Tryz.sizeOf219
  v105 := Tryz.zeroValue219
  t116 := Tryz.underlying201
  a116 := Tryz.isAgg201
  z116 := Tryz.sizeOf201
  t117 := Tryz.underlying202
  a117 := Tryz.isAgg202
  z117 := Tryz.sizeOf202
  v117 := Tryz.zeroValue202
  t119 := Tryz.underlying250
  a119 := Tryz.isAgg250
  z119 := Tryz.sizeOf250
  t124 := Tryz.underlying205
  a124 := Tryz.isAgg205
  z124 := Tryz.sizeOf205
  v124 := Tryz.zeroValue205
  t138 := Tryz.underlying252
  a138 := Tryz.isAgg252
  z138 := Tryz.sizeOf252
  v138 := Tryz.zeroValue252
  t139 := Tryz.underlying253
  a139 := Tryz.isAgg253
  z139 := Tryz.sizeOf253
  v139 := Tryz.zeroValue253
  g3 := by kernel_rfl
  g4 := by kernel_rfl }
def Tryz.lays106_ren : Go.Shelf.Ren := ⟨fun | 106 => 77 | 213 => 106 | 265 => 136 | n => n, fun | 9 => 9 | 3 => 3 | n => n, fun | n => n⟩
theorem Tryz.lays106 : Go.Proofs.Lays.n106 Tryz.prog Tryz.lays106_ren := {
  mixed := by kernel_rfl
  f106 := Tryz.func77.trans (congrArg some (by kernel_rfl))
  f213 := Tryz.func106.trans (congrArg some (by kernel_rfl))
  f265 := Tryz.func136.trans (congrArg some (by kernel_rfl))
  t3 := Tryz.underlying3
  a3 := Tryz.isAgg3
  z3 := Tryz.sizeOf3
  v3 := Tryz.zeroValue3
  t9 := Tryz.underlying9
  a9 := Tryz.isAgg9
  z9 := Tryz.sizeOf9
  v9 := Tryz.zeroValue9 }
open Go.RowKit in
theorem Tryz.strings_Compare (a b : ByteArray) (w : World) :
    Calls Tryz.prog 77 #[.string a, .string b] w fun e w' => e = .returned (.int .i64 (Lib.compareBytes a.data.toList b.data.toList)) ∧ w' = w := Any.strings_Compare Tryz.lays106 a b w
def Tryz.lays137_ren : Go.Shelf.Ren := ⟨fun | 137 => 48 | 217 => 76 | 266 => 105 | n => n, fun | 9 => 9 | 5 => 5 | 3 => 3 | n => n, fun | n => n⟩
theorem Tryz.lays137 : Go.Proofs.Lays.n137 Tryz.prog Tryz.lays137_ren := {
  mixed := by kernel_rfl
  f137 := Tryz.func48.trans (congrArg some (by kernel_rfl))
  f217 := Tryz.func76.trans (congrArg some (by kernel_rfl))
  f266 := Tryz.func105.trans (congrArg some (by kernel_rfl))
  t3 := Tryz.underlying3
  a3 := Tryz.isAgg3
  z3 := Tryz.sizeOf3
  v3 := Tryz.zeroValue3
  t5 := Tryz.underlying5
  a5 := Tryz.isAgg5
  z5 := Tryz.sizeOf5
  v5 := Tryz.zeroValue5
  t9 := Tryz.underlying9
  a9 := Tryz.isAgg9
  z9 := Tryz.sizeOf9
  v9 := Tryz.zeroValue9 }
open Go.RowKit in
theorem Tryz.strings_IndexByte (s : ByteArray) (c : Int) (w : World) :
    Calls Tryz.prog 48 #[.string s, .int .u8 c] w fun e w' => e = .returned (.int .i64 (Lib.indexByte s.data.toList c.toNat.toUInt8)) ∧ w' = w := Any.strings_IndexByte Tryz.lays137 s c w
def Tryz.lays103_ren : Go.Shelf.Ren := ⟨fun | 103 => 123 | 210 => 148 | 206 => 99 | n => n, fun | 9 => 9 | 4 => 4 | 24 => 42 | 3 => 3 | n => n, fun | n => n⟩
theorem Tryz.lays103 : Go.Proofs.Lays.n103 Tryz.prog Tryz.lays103_ren := {
  mixed := by kernel_rfl
  f103 := Tryz.func123.trans (congrArg some (by kernel_rfl))
  f206 := Tryz.func99.trans (congrArg some (by kernel_rfl))
  f210 := Tryz.func148.trans (congrArg some (by kernel_rfl))
  t3 := Tryz.underlying3
  a3 := Tryz.isAgg3
  z3 := Tryz.sizeOf3
  v3 := Tryz.zeroValue3
  t4 := Tryz.underlying4
  a4 := Tryz.isAgg4
  z4 := Tryz.sizeOf4
  v4 := Tryz.zeroValue4
  t9 := Tryz.underlying9
  a9 := Tryz.isAgg9
  z9 := Tryz.sizeOf9
  v9 := Tryz.zeroValue9
  t24 := Tryz.underlying42
  a24 := Tryz.isAgg42
  z24 := Tryz.sizeOf42
  v24 := Tryz.zeroValue42 }
open Go.RowKit in
theorem Tryz.strings_CutPrefix (s p : ByteArray) (w : World) :
    Calls Tryz.prog 123 #[.string s, .string p] w fun e w' => e = .returned (.tuple #[.string ⟨(Lib.trimPrefix s.data.toList p.data.toList).toArray⟩, .bool (Lib.hasPrefix s.data.toList p.data.toList)]) ∧ w' = w := Any.strings_CutPrefix Tryz.lays103 s p w
def Tryz.lays144_ren : Go.Shelf.Ren := ⟨fun | 144 => 122 | 143 => 147 | 219 => 166 | 217 => 76 | 225 => 197 | 224 => 198 | 267 => 199 | 266 => 105 | 314 => 210 | n => n, fun | 9 => 9 | 4 => 4 | 3 => 3 | 5 => 5 | 46 => 126 | 146 => 228 | 51 => 185 | n => n, fun | 1 => 1 | n => n⟩
theorem Tryz.lays144 : Go.Proofs.Lays.n144 Tryz.prog Tryz.lays144_ren := {
  mixed := by kernel_rfl
  f143 := Tryz.func147.trans (congrArg some (by kernel_rfl))
  f144 := Tryz.func122.trans (congrArg some (by kernel_rfl))
  f217 := Tryz.func76.trans (congrArg some (by kernel_rfl))
  f219 := Tryz.func166.trans (congrArg some (by kernel_rfl))
  f224 := Tryz.func198.trans (congrArg some (by kernel_rfl))
  f225 := Tryz.func197.trans (congrArg some (by kernel_rfl))
  f266 := Tryz.func105.trans (congrArg some (by kernel_rfl))
  f267 := Tryz.func199.trans (congrArg some (by kernel_rfl))
  f314 := Tryz.func210.trans (congrArg some (by kernel_rfl))
  t3 := Tryz.underlying3
  a3 := Tryz.isAgg3
  z3 := Tryz.sizeOf3
  v3 := Tryz.zeroValue3
  t4 := Tryz.underlying4
  a4 := Tryz.isAgg4
  z4 := Tryz.sizeOf4
  v4 := Tryz.zeroValue4
  t5 := Tryz.underlying5
  a5 := Tryz.isAgg5
  z5 := Tryz.sizeOf5
  v5 := Tryz.zeroValue5
  t9 := Tryz.underlying9
  a9 := Tryz.isAgg9
  z9 := Tryz.sizeOf9
  v9 := Tryz.zeroValue9
  t46 := Tryz.underlying126
  a46 := Tryz.isAgg126
  z46 := Tryz.sizeOf126
  v46 := Tryz.zeroValue126
  t51 := Tryz.underlying185
  a51 := Tryz.isAgg185
  z51 := Tryz.sizeOf185
  v51 := Tryz.zeroValue185
  t146 := Tryz.underlying228
  a146 := Tryz.isAgg228
  z146 := Tryz.sizeOf228
  v146 := Tryz.zeroValue228
  g1 := by kernel_rfl }
open Go.RowKit Go.Lib in
theorem Tryz.strings_Contains_one (s : ByteArray) (c : UInt8) (w : World) :
    Calls Tryz.prog 122 #[.string s, .string ⟨#[c]⟩] w fun e w' => e = .returned (.bool (decide (0 ≤ Lib.indexByte s.data.toList c))) ∧ w' = w := Any.strings_Contains_one Tryz.lays144 s c w
open Go.RowKit Go.Lib in
theorem Tryz.strings_Contains (s sub : ByteArray) (m : Int) (w : World) (hs : s.size < 4294967281) (hm : w.cell? ⟨1, 0, none⟩ = some (.int .i64 m)) :
    Calls Tryz.prog 122 #[.string s, .string sub] w fun e w' => e = .returned (.bool (Lib.contains s.data.toList sub.data.toList)) ∧ w' = w := Any.strings_Contains Tryz.lays144 s sub m w hs hm
def Tryz.lays145_ren : Go.Shelf.Ren := ⟨fun | 145 => 100 | 220 => 132 | 219 => 166 | 217 => 76 | 225 => 197 | 224 => 198 | 267 => 199 | 266 => 105 | 314 => 210 | n => n, fun | 9 => 9 | 4 => 4 | 59 => 140 | 3 => 3 | 5 => 5 | 46 => 126 | 146 => 228 | 51 => 185 | n => n, fun | 1 => 1 | n => n⟩
theorem Tryz.lays145 : Go.Proofs.Lays.n145 Tryz.prog Tryz.lays145_ren := {
  mixed := by kernel_rfl
  f145 := Tryz.func100.trans (congrArg some (by kernel_rfl))
  f217 := Tryz.func76.trans (congrArg some (by kernel_rfl))
  f219 := Tryz.func166.trans (congrArg some (by kernel_rfl))
  f220 := Tryz.func132.trans (congrArg some (by kernel_rfl))
  f224 := Tryz.func198.trans (congrArg some (by kernel_rfl))
  f225 := Tryz.func197.trans (congrArg some (by kernel_rfl))
  f266 := Tryz.func105.trans (congrArg some (by kernel_rfl))
  f267 := Tryz.func199.trans (congrArg some (by kernel_rfl))
  f314 := Tryz.func210.trans (congrArg some (by kernel_rfl))
  t3 := Tryz.underlying3
  a3 := Tryz.isAgg3
  z3 := Tryz.sizeOf3
  v3 := Tryz.zeroValue3
  t4 := Tryz.underlying4
  a4 := Tryz.isAgg4
  z4 := Tryz.sizeOf4
  v4 := Tryz.zeroValue4
  t5 := Tryz.underlying5
  a5 := Tryz.isAgg5
  z5 := Tryz.sizeOf5
  v5 := Tryz.zeroValue5
  t9 := Tryz.underlying9
  a9 := Tryz.isAgg9
  z9 := Tryz.sizeOf9
  v9 := Tryz.zeroValue9
  t46 := Tryz.underlying126
  a46 := Tryz.isAgg126
  z46 := Tryz.sizeOf126
  v46 := Tryz.zeroValue126
  t51 := Tryz.underlying185
  a51 := Tryz.isAgg185
  z51 := Tryz.sizeOf185
  v51 := Tryz.zeroValue185
  t59 := Tryz.underlying140
  a59 := Tryz.isAgg140
  z59 := Tryz.sizeOf140
  v59 := Tryz.zeroValue140
  t146 := Tryz.underlying228
  a146 := Tryz.isAgg228
  z146 := Tryz.sizeOf228
  v146 := Tryz.zeroValue228
  g1 := by kernel_rfl }
open Go.RowKit Go.Lib in
theorem Tryz.strings_Cut (s sep : ByteArray) (m : Int) (w : World) (hs : s.size < 4294967281) (hm : w.cell? ⟨1, 0, none⟩ = some (.int .i64 m)) :
    Calls Tryz.prog 100 #[.string s, .string sep] w fun e w' => e = .returned (.tuple #[.string ⟨(Lib.cut s.data.toList sep.data.toList).1.toArray⟩, .string ⟨(Lib.cut s.data.toList sep.data.toList).2.1.toArray⟩, .bool (Lib.cut s.data.toList sep.data.toList).2.2]) ∧ ∃ n, w' = w.drewN n := Any.strings_Cut Tryz.lays145 s sep m w hs hm
def Tryz.lays138_ren : Go.Shelf.Ren := ⟨fun | 138 => 135 | 195 => 167 | 218 => 168 | 143 => 147 | 219 => 166 | 217 => 76 | 225 => 197 | 224 => 198 | 267 => 199 | 266 => 105 | 314 => 210 | n => n, fun | 9 => 9 | 3 => 3 | 4 => 4 | 5 => 5 | 0 => 0 | 46 => 126 | 146 => 228 | 51 => 185 | n => n, fun | 1 => 1 | n => n⟩
theorem Tryz.lays138 : Go.Proofs.Lays.n138 Tryz.prog Tryz.lays138_ren := {
  mixed := by kernel_rfl
  f138 := Tryz.func135.trans (congrArg some (by kernel_rfl))
  f143 := Tryz.func147.trans (congrArg some (by kernel_rfl))
  f195 := Tryz.func167.trans (congrArg some (by kernel_rfl))
  f217 := Tryz.func76.trans (congrArg some (by kernel_rfl))
  f218 := Tryz.func168.trans (congrArg some (by kernel_rfl))
  f219 := Tryz.func166.trans (congrArg some (by kernel_rfl))
  f224 := Tryz.func198.trans (congrArg some (by kernel_rfl))
  f225 := Tryz.func197.trans (congrArg some (by kernel_rfl))
  f266 := Tryz.func105.trans (congrArg some (by kernel_rfl))
  f267 := Tryz.func199.trans (congrArg some (by kernel_rfl))
  f314 := Tryz.func210.trans (congrArg some (by kernel_rfl))
  t0 := Tryz.underlying0
  a0 := Tryz.isAgg0
  z0 := Tryz.sizeOf0
  v0 := Tryz.zeroValue0
  t3 := Tryz.underlying3
  a3 := Tryz.isAgg3
  z3 := Tryz.sizeOf3
  v3 := Tryz.zeroValue3
  t4 := Tryz.underlying4
  a4 := Tryz.isAgg4
  z4 := Tryz.sizeOf4
  v4 := Tryz.zeroValue4
  t5 := Tryz.underlying5
  a5 := Tryz.isAgg5
  z5 := Tryz.sizeOf5
  v5 := Tryz.zeroValue5
  t9 := Tryz.underlying9
  a9 := Tryz.isAgg9
  z9 := Tryz.sizeOf9
  v9 := Tryz.zeroValue9
  t46 := Tryz.underlying126
  a46 := Tryz.isAgg126
  z46 := Tryz.sizeOf126
  v46 := Tryz.zeroValue126
  t51 := Tryz.underlying185
  a51 := Tryz.isAgg185
  z51 := Tryz.sizeOf185
  v51 := Tryz.zeroValue185
  t146 := Tryz.underlying228
  a146 := Tryz.isAgg228
  z146 := Tryz.sizeOf228
  v146 := Tryz.zeroValue228
  g1 := by kernel_rfl }
open Go.RowKit Go.Lib in
theorem Tryz.strings_Count_one (s : ByteArray) (c : UInt8) (w : World) :
    Calls Tryz.prog 135 #[.string s, .string ⟨#[c]⟩] w fun e w' => e = .returned (.int .i64 (Lib.countByte s.data.toList c)) ∧ w' = w := Any.strings_Count_one Tryz.lays138 s c w
def Tryz.laysM144_ren : Go.Shelf.Ren := ⟨fun | 144 => 122 | 143 => 147 | 219 => 166 | 217 => 76 | 225 => 197 | 224 => 198 | 267 => 199 | 266 => 105 | 314 => 210 | n => n, fun | 9 => 9 | 4 => 4 | 3 => 3 | 5 => 5 | 46 => 126 | 146 => 228 | 51 => 185 | n => n, fun | 1 => 1 | n => n⟩
theorem Tryz.laysM144 : Go.Proofs.LaysM.n144 Tryz.prog Tryz.laysM144_ren := {
  mixed := by kernel_rfl
  f143 := Tryz.func147.trans (congrArg some (by kernel_rfl))
  f144 := Tryz.func122.trans (congrArg some (by kernel_rfl))
  f217 := Tryz.func76.trans (congrArg some (by kernel_rfl))
  f219 := Tryz.func166.trans (congrArg some (by kernel_rfl))
  f224 := Tryz.func198.trans (congrArg some (by kernel_rfl))
  f225 := Tryz.func197.trans (congrArg some (by kernel_rfl))
  f266 := Tryz.func105.trans (congrArg some (by kernel_rfl))
  f267 := Tryz.func199.trans (congrArg some (by kernel_rfl))
  f314 := Tryz.func210.trans (congrArg some (by kernel_rfl))
  t3 := Tryz.underlying3
  a3 := Tryz.isAgg3
  z3 := Tryz.sizeOf3
  v3 := Tryz.zeroValue3
  t4 := Tryz.underlying4
  a4 := Tryz.isAgg4
  z4 := Tryz.sizeOf4
  v4 := Tryz.zeroValue4
  t5 := Tryz.underlying5
  a5 := Tryz.isAgg5
  z5 := Tryz.sizeOf5
  v5 := Tryz.zeroValue5
  t9 := Tryz.underlying9
  a9 := Tryz.isAgg9
  z9 := Tryz.sizeOf9
  v9 := Tryz.zeroValue9
  t46 := Tryz.underlying126
  a46 := Tryz.isAgg126
  z46 := Tryz.sizeOf126
  v46 := Tryz.zeroValue126
  t51 := Tryz.underlying185
  a51 := Tryz.isAgg185
  z51 := Tryz.sizeOf185
  v51 := Tryz.zeroValue185
  t146 := Tryz.underlying228
  a146 := Tryz.isAgg228
  z146 := Tryz.sizeOf228
  v146 := Tryz.zeroValue228
  g1 := by kernel_rfl
  i3 := by kernel_rfl
  i4 := by kernel_rfl
  i5 := by kernel_rfl
  i9 := by kernel_rfl
  i46 := by kernel_rfl
  i51 := by kernel_rfl
  i146 := by kernel_rfl
  m1 := by kernel_rfl
  s1_3 := fun w h => Go.Proofs.cell_of_shapedOpen_int (zero := #[.int .i64 0]) (t := 3) h (of_decide_eq_true (by kernel_rfl)) (by kernel_rfl) rfl (by kernel_rfl) (by kernel_rfl) Tryz.underlying3 }
def Tryz.lays99_ren : Go.Shelf.Ren := ⟨fun | 99 => 70 | 206 => 99 | n => n, fun | 9 => 9 | 4 => 4 | 3 => 3 | n => n, fun | n => n⟩
theorem Tryz.lays99 : Go.Proofs.Lays.n99 Tryz.prog Tryz.lays99_ren := {
  mixed := by kernel_rfl
  f99 := Tryz.func70.trans (congrArg some (by kernel_rfl))
  f206 := Tryz.func99.trans (congrArg some (by kernel_rfl))
  t3 := Tryz.underlying3
  a3 := Tryz.isAgg3
  z3 := Tryz.sizeOf3
  v3 := Tryz.zeroValue3
  t4 := Tryz.underlying4
  a4 := Tryz.isAgg4
  z4 := Tryz.sizeOf4
  v4 := Tryz.zeroValue4
  t9 := Tryz.underlying9
  a9 := Tryz.isAgg9
  z9 := Tryz.sizeOf9
  v9 := Tryz.zeroValue9 }
open Go.RowKit Go.Lib in
theorem Tryz.strings_HasPrefix (s p : ByteArray) (w : World) :
    Calls Tryz.prog 70 #[.string s, .string p] w fun e w' => e = .returned (.bool (Lib.hasPrefix s.data.toList p.data.toList)) ∧ w' = w := Any.strings_HasPrefix Tryz.lays99 s p w
def Tryz.lays101_ren : Go.Shelf.Ren := ⟨fun | 101 => 121 | 208 => 146 | 206 => 99 | n => n, fun | 9 => 9 | 4 => 4 | 3 => 3 | n => n, fun | n => n⟩
theorem Tryz.lays101 : Go.Proofs.Lays.n101 Tryz.prog Tryz.lays101_ren := {
  mixed := by kernel_rfl
  f101 := Tryz.func121.trans (congrArg some (by kernel_rfl))
  f206 := Tryz.func99.trans (congrArg some (by kernel_rfl))
  f208 := Tryz.func146.trans (congrArg some (by kernel_rfl))
  t3 := Tryz.underlying3
  a3 := Tryz.isAgg3
  z3 := Tryz.sizeOf3
  v3 := Tryz.zeroValue3
  t4 := Tryz.underlying4
  a4 := Tryz.isAgg4
  z4 := Tryz.sizeOf4
  v4 := Tryz.zeroValue4
  t9 := Tryz.underlying9
  a9 := Tryz.isAgg9
  z9 := Tryz.sizeOf9
  v9 := Tryz.zeroValue9 }
open Go.RowKit Go.Lib in
theorem Tryz.strings_TrimPrefix (s p : ByteArray) (w : World) :
    Calls Tryz.prog 121 #[.string s, .string p] w fun e w' => e = .returned (.string ⟨(Lib.trimPrefix s.data.toList p.data.toList).toArray⟩) ∧ w' = w := Any.strings_TrimPrefix Tryz.lays101 s p w
def Tryz.lays155_ren : Go.Shelf.Ren := ⟨fun | 155 => 126 | 154 => 150 | 138 => 135 | 165 => 59 | 143 => 147 | 166 => 60 | 197 => 176 | 169 => 61 | 195 => 167 | 218 => 168 | 240 => 80 | 241 => 81 | 219 => 166 | 260 => 203 | 276 => 112 | 277 => 113 | 217 => 76 | 225 => 197 | 224 => 198 | 267 => 199 | 266 => 105 | 314 => 210 | n => n, fun | 9 => 9 | 3 => 3 | 4 => 4 | 72 => 113 | 0 => 0 | 76 => 117 | 105 => 219 | 21 => 21 | 5 => 5 | 70 => 111 | 20 => 20 | 37 => 73 | 75 => 116 | 127 => 128 | 164 => 152 | 46 => 126 | 119 => 250 | 139 => 253 | 138 => 252 | 146 => 228 | 51 => 185 | 80 => 63 | n => n, fun | 1 => 1 | 3 => 9 | 4 => 10 | n => n⟩
theorem Tryz.lays155 : Go.Proofs.Lays.n155 Tryz.prog Tryz.lays155_ren := {
  mixed := by kernel_rfl
  f138 := Tryz.func135.trans (congrArg some (by kernel_rfl))
  f143 := Tryz.func147.trans (congrArg some (by kernel_rfl))
  f154 := Tryz.func150.trans (congrArg some (by kernel_rfl))
  f155 := Tryz.func126.trans (congrArg some (by kernel_rfl))
  f165 := Tryz.func59.trans (congrArg some (by kernel_rfl))
  f166 := Tryz.func60.trans (congrArg some (by kernel_rfl))
  f169 := Tryz.func61.trans (congrArg some (by kernel_rfl))
  f195 := Tryz.func167.trans (congrArg some (by kernel_rfl))
  f197 := Tryz.func176.trans (congrArg some (by kernel_rfl))
  f217 := Tryz.func76.trans (congrArg some (by kernel_rfl))
  f218 := Tryz.func168.trans (congrArg some (by kernel_rfl))
  f219 := Tryz.func166.trans (congrArg some (by kernel_rfl))
  f224 := Tryz.func198.trans (congrArg some (by kernel_rfl))
  f225 := Tryz.func197.trans (congrArg some (by kernel_rfl))
  f240 := Tryz.func80.trans (congrArg some (by kernel_rfl))
  f241 := Tryz.func81.trans (congrArg some (by kernel_rfl))
  f260 := Tryz.func203.trans (congrArg some (by kernel_rfl))
  f266 := Tryz.func105.trans (congrArg some (by kernel_rfl))
  f267 := Tryz.func199.trans (congrArg some (by kernel_rfl))
  f276 := Tryz.func112.trans (congrArg some (by kernel_rfl))
  f277 := Tryz.func113.trans (congrArg some (by kernel_rfl))
  f314 := Tryz.func210.trans (congrArg some (by kernel_rfl))
  t0 := Tryz.underlying0
  a0 := Tryz.isAgg0
  z0 := Tryz.sizeOf0
  v0 := Tryz.zeroValue0
  t3 := Tryz.underlying3
  a3 := Tryz.isAgg3
  z3 := Tryz.sizeOf3
  v3 := Tryz.zeroValue3
  t4 := Tryz.underlying4
  a4 := Tryz.isAgg4
  z4 := Tryz.sizeOf4
  v4 := Tryz.zeroValue4
  t5 := Tryz.underlying5
  a5 := Tryz.isAgg5
  z5 := Tryz.sizeOf5
  v5 := Tryz.zeroValue5
  t9 := Tryz.underlying9
  a9 := Tryz.isAgg9
  z9 := Tryz.sizeOf9
  v9 := Tryz.zeroValue9
  t20 := Tryz.underlying20
  a20 := Tryz.isAgg20
  z20 := Tryz.sizeOf20
  v20 := Tryz.zeroValue20
  t21 := Tryz.underlying21
  a21 := Tryz.isAgg21
  z21 := Tryz.sizeOf21
  v21 := Tryz.zeroValue21
  t37 := Tryz.underlying73
  a37 := Tryz.isAgg73
  z37 := Tryz.sizeOf73
  v37 := Tryz.zeroValue73
  t46 := Tryz.underlying126
  a46 := Tryz.isAgg126
  z46 := Tryz.sizeOf126
  v46 := Tryz.zeroValue126
  t51 := Tryz.underlying185
  a51 := Tryz.isAgg185
  z51 := Tryz.sizeOf185
  v51 := Tryz.zeroValue185
  t70 := Tryz.underlying111
  a70 := Tryz.isAgg111
  z70 := Tryz.sizeOf111
  v70 := Tryz.zeroValue111
  t72 := Tryz.underlying113
  a72 := Tryz.isAgg113
  z72 := Tryz.sizeOf113
  v72 := Tryz.zeroValue113
  t75 := Tryz.underlying116
  a75 := Tryz.isAgg116
  z75 := Tryz.sizeOf116
  v75 := Tryz.zeroValue116
  t76 := Tryz.underlying117
  a76 := Tryz.isAgg117
  z76 := Tryz.sizeOf117
  v76 := Tryz.zeroValue117
  t105 := Tryz.underlying219
  a105 := Tryz.isAgg219
  z105 := Tryz.sizeOf219
  v105 := Tryz.zeroValue219
  t119 := Tryz.underlying250
  a119 := Tryz.isAgg250
  z119 := Tryz.sizeOf250
  t127 := Tryz.underlying128
  a127 := Tryz.isAgg128
  z127 := Tryz.sizeOf128
  v127 := Tryz.zeroValue128
  t138 := Tryz.underlying252
  a138 := Tryz.isAgg252
  z138 := Tryz.sizeOf252
  v138 := Tryz.zeroValue252
  t139 := Tryz.underlying253
  a139 := Tryz.isAgg253
  z139 := Tryz.sizeOf253
  v139 := Tryz.zeroValue253
  t146 := Tryz.underlying228
  a146 := Tryz.isAgg228
  z146 := Tryz.sizeOf228
  v146 := Tryz.zeroValue228
  t164 := Tryz.underlying152
  a164 := Tryz.isAgg152
  z164 := Tryz.sizeOf152
  v164 := Tryz.zeroValue152
  g1 := by kernel_rfl
  g3 := by kernel_rfl
  g4 := by kernel_rfl }
theorem Tryz.Builder_Extra_155 : Builder.Extra Tryz.prog Tryz.lays155_ren := {
  sizeBuilder := by kernel_rfl
  liesBuilder := by kernel_rfl
  t5 := Tryz.underlying5
  a5 := Tryz.isAgg5
  z5 := Tryz.sizeOf5
  v5 := Tryz.zeroValue5
  infoByte := by kernel_rfl
  cellsByte := by kernel_rfl
  sizeByte := by kernel_rfl
  neB5 := by decide }
open Go.RowKit Go.Lib in
theorem Tryz.strings_ReplaceAll (s old new : ByteArray) (m : Int) (w : World) (hs : s.size < 4294967281) (hm : w.cell? ⟨1, 0, none⟩ = some (.int .i64 m)) (h1 : 1 ≤ old.size) (hlen : s.size + Lib.countB s old * new.size ≤ 140737488355328) :
    Calls Tryz.prog 126 #[.string s, .string old, .string new] w fun e w' =>
      e = .returned (.string ⟨(Lib.replaceAll s.data.toList old.data.toList new.data.toList).toArray⟩) ∧ Below w.heap.size w w' := Any.strings_ReplaceAll Tryz.lays155 Tryz.Builder_Extra_155 s old new m w hs hm h1 hlen
def Tryz.lays105_ren : Go.Shelf.Ren := ⟨fun | 105 => 145 | 212 => 173 | 99 => 70 | 165 => 59 | 166 => 60 | 170 => 174 | 169 => 61 | 263 => 200 | 264 => 201 | 206 => 99 | 240 => 80 | 241 => 81 | 276 => 112 | 277 => 113 | n => n, fun | 9 => 9 | 3 => 3 | 4 => 4 | 20 => 20 | 0 => 0 | 46 => 126 | 109 => 215 | 5 => 5 | 72 => 113 | 76 => 117 | 51 => 185 | 146 => 228 | 53 => 147 | 148 => 230 | 70 => 111 | 37 => 73 | 75 => 116 | 127 => 128 | 164 => 152 | 80 => 63 | n => n, fun | n => n⟩
theorem Tryz.lays105 : Go.Proofs.Lays.n105 Tryz.prog Tryz.lays105_ren := {
  mixed := by kernel_rfl
  f99 := Tryz.func70.trans (congrArg some (by kernel_rfl))
  f105 := Tryz.func145.trans (congrArg some (by kernel_rfl))
  f165 := Tryz.func59.trans (congrArg some (by kernel_rfl))
  f166 := Tryz.func60.trans (congrArg some (by kernel_rfl))
  f169 := Tryz.func61.trans (congrArg some (by kernel_rfl))
  f170 := Tryz.func174.trans (congrArg some (by kernel_rfl))
  f206 := Tryz.func99.trans (congrArg some (by kernel_rfl))
  f212 := Tryz.func173.trans (congrArg some (by kernel_rfl))
  f240 := Tryz.func80.trans (congrArg some (by kernel_rfl))
  f241 := Tryz.func81.trans (congrArg some (by kernel_rfl))
  f263 := Tryz.func200.trans (congrArg some (by kernel_rfl))
  f264 := Tryz.func201.trans (congrArg some (by kernel_rfl))
  f276 := Tryz.func112.trans (congrArg some (by kernel_rfl))
  f277 := Tryz.func113.trans (congrArg some (by kernel_rfl))
  t0 := Tryz.underlying0
  a0 := Tryz.isAgg0
  z0 := Tryz.sizeOf0
  v0 := Tryz.zeroValue0
  t3 := Tryz.underlying3
  a3 := Tryz.isAgg3
  z3 := Tryz.sizeOf3
  v3 := Tryz.zeroValue3
  t4 := Tryz.underlying4
  a4 := Tryz.isAgg4
  z4 := Tryz.sizeOf4
  v4 := Tryz.zeroValue4
  t5 := Tryz.underlying5
  a5 := Tryz.isAgg5
  z5 := Tryz.sizeOf5
  v5 := Tryz.zeroValue5
  t9 := Tryz.underlying9
  a9 := Tryz.isAgg9
  z9 := Tryz.sizeOf9
  v9 := Tryz.zeroValue9
  t20 := Tryz.underlying20
  a20 := Tryz.isAgg20
  z20 := Tryz.sizeOf20
  v20 := Tryz.zeroValue20
  t37 := Tryz.underlying73
  a37 := Tryz.isAgg73
  z37 := Tryz.sizeOf73
  v37 := Tryz.zeroValue73
  t46 := Tryz.underlying126
  a46 := Tryz.isAgg126
  z46 := Tryz.sizeOf126
  v46 := Tryz.zeroValue126
  t51 := Tryz.underlying185
  a51 := Tryz.isAgg185
  z51 := Tryz.sizeOf185
  v51 := Tryz.zeroValue185
  t53 := Tryz.underlying147
  a53 := Tryz.isAgg147
  z53 := Tryz.sizeOf147
  v53 := Tryz.zeroValue147
  t70 := Tryz.underlying111
  a70 := Tryz.isAgg111
  z70 := Tryz.sizeOf111
  v70 := Tryz.zeroValue111
  t72 := Tryz.underlying113
  a72 := Tryz.isAgg113
  z72 := Tryz.sizeOf113
  v72 := Tryz.zeroValue113
  t75 := Tryz.underlying116
  a75 := Tryz.isAgg116
  z75 := Tryz.sizeOf116
  v75 := Tryz.zeroValue116
  t76 := Tryz.underlying117
  a76 := Tryz.isAgg117
  z76 := Tryz.sizeOf117
  v76 := Tryz.zeroValue117
  t109 := Tryz.underlying215
  a109 := Tryz.isAgg215
  z109 := Tryz.sizeOf215
  v109 := Tryz.zeroValue215
  t127 := Tryz.underlying128
  a127 := Tryz.isAgg128
  z127 := Tryz.sizeOf128
  v127 := Tryz.zeroValue128
  t146 := Tryz.underlying228
  a146 := Tryz.isAgg228
  z146 := Tryz.sizeOf228
  v146 := Tryz.zeroValue228
  t148 := Tryz.underlying230
  a148 := Tryz.isAgg230
  z148 := Tryz.sizeOf230
  v148 := Tryz.zeroValue230
  t164 := Tryz.underlying152
  a164 := Tryz.isAgg152
  z164 := Tryz.sizeOf152
  v164 := Tryz.zeroValue152 }
theorem Tryz.Builder_Extra_105 : Builder.Extra Tryz.prog Tryz.lays105_ren := {
  sizeBuilder := by kernel_rfl
  liesBuilder := by kernel_rfl
  t5 := Tryz.underlying5
  a5 := Tryz.isAgg5
  z5 := Tryz.sizeOf5
  v5 := Tryz.zeroValue5
  infoByte := by kernel_rfl
  cellsByte := by kernel_rfl
  sizeByte := by kernel_rfl
  neB5 := by decide }
open Go.RowKit Go.Lib in
theorem Tryz.strings_Repeat (s : ByteArray) (c : Nat) (w : World) (hc : c ≤ 9223372036854775807) (hlen : s.size * c ≤ 140737488355328) :
    Calls Tryz.prog 145 #[.string s, .int .i64 c] w fun e w' => e = .returned (.string ⟨(Lib.repeatL s.data.toList c).toArray⟩) ∧ Below w.heap.size w w' := Any.strings_Repeat Tryz.lays105 Tryz.Builder_Extra_105 s c w hc hlen
end Go.Proofs
