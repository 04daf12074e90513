/- The library's contracts that the walks use, at this program. No condition. -/
import Derived.Shelf.Strings.OnBuilder
import Derived.Shelf.Strings.SlTrimAscii
import Derived.Shelf.Strings.Trim
import Derived.Shelf.Small.Strs
import Derived.Shelf.Strconv.Atoi
import Derived.Shelf.Strconv.Itoa3
import Derived.Shelf.Strings.Search3
import Derived.Shelf.Strings.Count
import Derived.Shelf.Strings.Split
import Derived.Shelf.Strings.SplitShaped
import Derived.Shelf.Strings.IndexAny
import Derived.Shelf.LaysM
import Derived.Shelf.Small.Utf8
import Derived.Shelf.Strings.Runes
import Derived.Shelf.Slices.Turned
import Derived.Shelf.Spec.SlicesGrow
import Derived.Shelf.Spec.TrailingZeros
import Derived.Shelf.Spec.BitsCarry
import Derived.Test.YtmnhgeggojgflaaGreatDoorProg
set_option linter.unusedVariables false
set_option linter.unusedSimpArgs false
namespace Go.Proofs
open Go.Shelf
def Tryz.lays29_ren : Go.Shelf.Ren := ⟨fun | 29 => 95 | n => n, fun | 22 => 45 | 3 => 3 | 4 => 4 | 25 => 46 | 54 => 140 | 0 => 0 | 5 => 5 | n => n, fun | 1 => 2 | n => n⟩
theorem Tryz.lays29 : Go.Proofs.Lays7.n29 Tryz.prog Tryz.lays29_ren := {
  mixed := by kernel_rfl
  f29 := Tryz.func95.trans (congrArg some (by kernel_rfl))
  t0 := Tryz.underlying0
  a0 := Tryz.isAgg0
  z0 := Tryz.sizeOf0
  v0 := Tryz.zeroValue0
  i0 := by kernel_rfl
  t3 := Tryz.underlying3
  a3 := Tryz.isAgg3
  z3 := Tryz.sizeOf3
  v3 := Tryz.zeroValue3
  i3 := by kernel_rfl
  t4 := Tryz.underlying4
  a4 := Tryz.isAgg4
  z4 := Tryz.sizeOf4
  v4 := Tryz.zeroValue4
  i4 := by kernel_rfl
  t5 := Tryz.underlying5
  a5 := Tryz.isAgg5
  z5 := Tryz.sizeOf5
  v5 := Tryz.zeroValue5
  i5 := by kernel_rfl
  t22 := Tryz.underlying45
  a22 := Tryz.isAgg45
  z22 := Tryz.sizeOf45
  v22 := Tryz.zeroValue45
  i22 := by kernel_rfl
  t25 := Tryz.underlying46
  a25 := Tryz.isAgg46
  z25 := Tryz.sizeOf46
  v25 := Tryz.zeroValue46
  i25 := by kernel_rfl
  t54 := Tryz.underlying140
  a54 := Tryz.isAgg140
  z54 := Tryz.sizeOf140
  g1 := by kernel_rfl }
def Tryz.lays156_ren : Go.Shelf.Ren := ⟨fun | 156 => 24 | 165 => 56 | 166 => 23 | 169 => 27 | 240 => 55 | 241 => 92 | 276 => 91 | 277 => 121 | n => n, fun | 31 => 22 | 9 => 9 | 3 => 3 | 4 => 4 | 0 => 0 | 20 => 20 | 72 => 52 | 76 => 55 | 70 => 50 | 37 => 41 | 75 => 54 | 127 => 100 | 164 => 118 | 5 => 5 | 80 => 61 | n => n, fun | n => n⟩
theorem Tryz.lays156 : Go.Proofs.Lays.n156 Tryz.prog Tryz.lays156_ren := {
  mixed := by kernel_rfl
  f156 := Tryz.func24.trans (congrArg some (by kernel_rfl))
  f165 := Tryz.func56.trans (congrArg some (by kernel_rfl))
  f166 := Tryz.func23.trans (congrArg some (by kernel_rfl))
  f169 := Tryz.func27.trans (congrArg some (by kernel_rfl))
  f240 := Tryz.func55.trans (congrArg some (by kernel_rfl))
  f241 := Tryz.func92.trans (congrArg some (by kernel_rfl))
  f276 := Tryz.func91.trans (congrArg some (by kernel_rfl))
  f277 := Tryz.func121.trans (congrArg some (by kernel_rfl))
  t0 := Tryz.underlying0
  a0 := Tryz.isAgg0
  z0 := Tryz.sizeOf0
  v0 := Tryz.zeroValue0
  t3 := Tryz.underlying3
  a3 := Tryz.isAgg3
  z3 := Tryz.sizeOf3
  v3 := Tryz.zeroValue3
  t4 := Tryz.underlying4
  a4 := Tryz.isAgg4
  z4 := Tryz.sizeOf4
  v4 := Tryz.zeroValue4
  t9 := Tryz.underlying9
  a9 := Tryz.isAgg9
  z9 := Tryz.sizeOf9
  v9 := Tryz.zeroValue9
  t20 := Tryz.underlying20
  a20 := Tryz.isAgg20
  z20 := Tryz.sizeOf20
  v20 := Tryz.zeroValue20
  t31 := Tryz.underlying22
  a31 := Tryz.isAgg22
  z31 := Tryz.sizeOf22
  v31 := Tryz.zeroValue22
  t37 := Tryz.underlying41
  a37 := Tryz.isAgg41
  z37 := Tryz.sizeOf41
  v37 := Tryz.zeroValue41
  t70 := Tryz.underlying50
  a70 := Tryz.isAgg50
  z70 := Tryz.sizeOf50
  v70 := Tryz.zeroValue50
  t72 := Tryz.underlying52
  a72 := Tryz.isAgg52
  z72 := Tryz.sizeOf52
  v72 := Tryz.zeroValue52
  t75 := Tryz.underlying54
  a75 := Tryz.isAgg54
  z75 := Tryz.sizeOf54
  v75 := Tryz.zeroValue54
  t76 := Tryz.underlying55
  a76 := Tryz.isAgg55
  z76 := Tryz.sizeOf55
  v76 := Tryz.zeroValue55
  t127 := Tryz.underlying100
  a127 := Tryz.isAgg100
  z127 := Tryz.sizeOf100
  v127 := Tryz.zeroValue100
  t164 := Tryz.underlying118
  a164 := Tryz.isAgg118
  z164 := Tryz.sizeOf118
  v164 := Tryz.zeroValue118 }
theorem Tryz.Builder_Extra_156 : Builder.Extra Tryz.prog Tryz.lays156_ren := {
  sizeBuilder := by kernel_rfl
  liesBuilder := by kernel_rfl
  t5 := Tryz.underlying5
  a5 := Tryz.isAgg5
  z5 := Tryz.sizeOf5
  v5 := Tryz.zeroValue5
  infoByte := by kernel_rfl
  cellsByte := by kernel_rfl
  sizeByte := by kernel_rfl
  neB5 := by decide }
open Go.RowKit in
theorem Tryz.strings_Join_none (a : Option Addr) (c : Nat) (sep : ByteArray) (w : World) :
    Calls Tryz.prog 24 #[.slice a 0 c, .string sep] w fun e w' => e = .returned (.string ⟨#[]⟩) ∧ w' = w := Any.strings_Join_none Tryz.lays156 Tryz.Builder_Extra_156 a c sep w
open Go.RowKit in
theorem Tryz.strings_Join (bk o c : Nat) (xs : List ByteArray) (sep : ByteArray) (w : World) (hcells : ∀ (j : Nat) x, xs[j]? = some x → w.cell? ⟨bk, o + j, none⟩ = some (.string x)) (hbk : bk < w.heap.size) (hN : xs.length ≤ 140737488355328) (hcap : xs.length ≤ c) (hlen : (Lib.join (xs.map (·.data.toList)) sep.data.toList).length ≤ 140737488355328) :
    Calls Tryz.prog 24 #[.slice (some ⟨bk, o, none⟩) xs.length c, .string sep] w fun e w' => e = .returned (.string ⟨(Lib.join (xs.map (·.data.toList)) sep.data.toList).toArray⟩) ∧ Below w.heap.size w w' := Any.strings_Join Tryz.lays156 Tryz.Builder_Extra_156 bk o c xs sep w hcells hbk hN hcap hlen
def Tryz.lays160_ren : Go.Shelf.Ren := ⟨fun | 160 => 89 | 232 => 118 | 231 => 44 | 227 => 45 | 234 => 119 | 233 => 46 | 236 => 120 | 235 => 47 | 228 => 85 | 271 => 136 | 151 => 87 | 197 => 86 | 120 => 148 | 152 => 99 | 260 => 117 | 137 => 67 | 119 => 127 | 224 => 114 | 225 => 113 | 217 => 101 | 266 => 128 | n => n, fun | 9 => 9 | 4 => 4 | 3 => 3 | 5 => 5 | 117 => 89 | 116 => 88 | 0 => 0 | 124 => 92 | 21 => 21 | 105 => 113 | 46 => 46 | 119 => 146 | 139 => 149 | 138 => 148 | n => n, fun | 3 => 3 | 4 => 4 | n => n⟩
theorem Tryz.lays160 : Go.Proofs.Lays.n160 Tryz.prog Tryz.lays160_ren := {
  mixed := by kernel_rfl
  f119 := Tryz.func127.trans (congrArg some (by kernel_rfl))
  f120 := Tryz.func148.trans (congrArg some (by kernel_rfl))
  f137 := Tryz.func67.trans (congrArg some (by kernel_rfl))
  f151 := Tryz.func87.trans (congrArg some (by kernel_rfl))
  f152 := Tryz.func99.trans (congrArg some (by kernel_rfl))
  f160 := Tryz.func89.trans (congrArg some (by kernel_rfl))
  f197 := Tryz.func86.trans (congrArg some (by kernel_rfl))
  f217 := Tryz.func101.trans (congrArg some (by kernel_rfl))
  f224 := Tryz.func114.trans (congrArg some (by kernel_rfl))
  f225 := Tryz.func113.trans (congrArg some (by kernel_rfl))
  f227 := Tryz.func45.trans (congrArg some (by kernel_rfl))
  f228 := Tryz.func85.trans (congrArg some (by kernel_rfl))
  f231 := Tryz.func44.trans (congrArg some (by kernel_rfl))
  f232 := Tryz.func118.trans (congrArg some (by kernel_rfl))
  f233 := Tryz.func46.trans (congrArg some (by kernel_rfl))
  f234 := Tryz.func119.trans (congrArg some (by kernel_rfl))
  f235 := Tryz.func47.trans (congrArg some (by kernel_rfl))
  f236 := Tryz.func120.trans (congrArg some (by kernel_rfl))
  f260 := Tryz.func117.trans (congrArg some (by kernel_rfl))
  f266 := Tryz.func128.trans (congrArg some (by kernel_rfl))
  f271 := Tryz.func136.trans (congrArg some (by kernel_rfl))
  t0 := Tryz.underlying0
  a0 := Tryz.isAgg0
  z0 := Tryz.sizeOf0
  v0 := Tryz.zeroValue0
  t3 := Tryz.underlying3
  a3 := Tryz.isAgg3
  z3 := Tryz.sizeOf3
  v3 := Tryz.zeroValue3
  t4 := Tryz.underlying4
  a4 := Tryz.isAgg4
  z4 := Tryz.sizeOf4
  v4 := Tryz.zeroValue4
  t5 := Tryz.underlying5
  a5 := Tryz.isAgg5
  z5 := Tryz.sizeOf5
  v5 := Tryz.zeroValue5
  t9 := Tryz.underlying9
  a9 := Tryz.isAgg9
  z9 := Tryz.sizeOf9
  v9 := Tryz.zeroValue9
  t21 := Tryz.underlying21
  a21 := Tryz.isAgg21
  z21 := Tryz.sizeOf21
  v21 := Tryz.zeroValue21
  t46 := Tryz.underlying46
  a46 := Tryz.isAgg46
  z46 := Tryz.sizeOf46
  v46 := Tryz.zeroValue46
  t105 := Tryz.underlying113
  a105 := Tryz.isAgg113
  z105 := Tryz.sizeOf113
  v105 := Tryz.zeroValue113
  t116 := Tryz.underlying88
  a116 := Tryz.isAgg88
  z116 := Tryz.sizeOf88
  t117 := Tryz.underlying89
  a117 := Tryz.isAgg89
  z117 := Tryz.sizeOf89
  v117 := Tryz.zeroValue89
  t119 := Tryz.underlying146
  a119 := Tryz.isAgg146
  z119 := Tryz.sizeOf146
  t124 := Tryz.underlying92
  a124 := Tryz.isAgg92
  z124 := Tryz.sizeOf92
  v124 := Tryz.zeroValue92
  t138 := Tryz.underlying148
  a138 := Tryz.isAgg148
  z138 := Tryz.sizeOf148
  v138 := Tryz.zeroValue148
  t139 := Tryz.underlying149
  a139 := Tryz.isAgg149
  z139 := Tryz.sizeOf149
  v139 := Tryz.zeroValue149
  g3 := by kernel_rfl
  g4 := by kernel_rfl }
open Go.RowKit in
theorem Tryz.strings_Trim_one (s : ByteArray) (c : UInt8) (hc : c.toNat < 128) (w : World) (hs : s.size ≤ 9223372036854775807) :
    Calls Tryz.prog 89 #[.string s, .string ⟨#[c]⟩] w fun e w' => e = .returned (.string ⟨(Lib.trimB s.data.toList c).toArray⟩) ∧ (w' = w ∨ w' = w.drew) := Any.strings_Trim_one Tryz.lays160 s c hc w hs
def Tryz.lays161_ren : Go.Shelf.Ren := ⟨fun | 161 => 18 | 231 => 44 | 227 => 45 | 233 => 46 | 235 => 47 | 228 => 85 | 197 => 86 | 151 => 87 | 260 => 117 | 152 => 99 | 137 => 67 | 119 => 127 | 224 => 114 | 225 => 113 | 217 => 101 | 266 => 128 | n => n, fun | 9 => 9 | 4 => 4 | 3 => 3 | 5 => 5 | 117 => 89 | 116 => 88 | 0 => 0 | 124 => 92 | 105 => 113 | 21 => 21 | 119 => 146 | 46 => 46 | 139 => 149 | 138 => 148 | n => n, fun | 3 => 3 | 4 => 4 | n => n⟩
theorem Tryz.lays161 : Go.Proofs.Lays.n161 Tryz.prog Tryz.lays161_ren := {
  mixed := by kernel_rfl
  f119 := Tryz.func127.trans (congrArg some (by kernel_rfl))
  f137 := Tryz.func67.trans (congrArg some (by kernel_rfl))
  f151 := Tryz.func87.trans (congrArg some (by kernel_rfl))
  f152 := Tryz.func99.trans (congrArg some (by kernel_rfl))
  f161 := Tryz.func18.trans (congrArg some (by kernel_rfl))
  f197 := Tryz.func86.trans (congrArg some (by kernel_rfl))
  f217 := Tryz.func101.trans (congrArg some (by kernel_rfl))
  f224 := Tryz.func114.trans (congrArg some (by kernel_rfl))
  f225 := Tryz.func113.trans (congrArg some (by kernel_rfl))
  f227 := Tryz.func45.trans (congrArg some (by kernel_rfl))
  f228 := Tryz.func85.trans (congrArg some (by kernel_rfl))
  f231 := Tryz.func44.trans (congrArg some (by kernel_rfl))
  f233 := Tryz.func46.trans (congrArg some (by kernel_rfl))
  f235 := Tryz.func47.trans (congrArg some (by kernel_rfl))
  f260 := Tryz.func117.trans (congrArg some (by kernel_rfl))
  f266 := Tryz.func128.trans (congrArg some (by kernel_rfl))
  t0 := Tryz.underlying0
  a0 := Tryz.isAgg0
  z0 := Tryz.sizeOf0
  v0 := Tryz.zeroValue0
  t3 := Tryz.underlying3
  a3 := Tryz.isAgg3
  z3 := Tryz.sizeOf3
  v3 := Tryz.zeroValue3
  t4 := Tryz.underlying4
  a4 := Tryz.isAgg4
  z4 := Tryz.sizeOf4
  v4 := Tryz.zeroValue4
  t5 := Tryz.underlying5
  a5 := Tryz.isAgg5
  z5 := Tryz.sizeOf5
  v5 := Tryz.zeroValue5
  t9 := Tryz.underlying9
  a9 := Tryz.isAgg9
  z9 := Tryz.sizeOf9
  v9 := Tryz.zeroValue9
  t21 := Tryz.underlying21
  a21 := Tryz.isAgg21
  z21 := Tryz.sizeOf21
  v21 := Tryz.zeroValue21
  t46 := Tryz.underlying46
  a46 := Tryz.isAgg46
  z46 := Tryz.sizeOf46
  v46 := Tryz.zeroValue46
  t105 := Tryz.underlying113
  a105 := Tryz.isAgg113
  z105 := Tryz.sizeOf113
  v105 := Tryz.zeroValue113
  t116 := Tryz.underlying88
  a116 := Tryz.isAgg88
  z116 := Tryz.sizeOf88
  t117 := Tryz.underlying89
  a117 := Tryz.isAgg89
  z117 := Tryz.sizeOf89
  v117 := Tryz.zeroValue89
  t119 := Tryz.underlying146
  a119 := Tryz.isAgg146
  z119 := Tryz.sizeOf146
  t124 := Tryz.underlying92
  a124 := Tryz.isAgg92
  z124 := Tryz.sizeOf92
  v124 := Tryz.zeroValue92
  t138 := Tryz.underlying148
  a138 := Tryz.isAgg148
  z138 := Tryz.sizeOf148
  v138 := Tryz.zeroValue148
  t139 := Tryz.underlying149
  a139 := Tryz.isAgg149
  z139 := Tryz.sizeOf149
  v139 := Tryz.zeroValue149
  g3 := by kernel_rfl
  g4 := by kernel_rfl }
open Go.RowKit in
theorem Tryz.strings_TrimLeft_one (s : ByteArray) (c : UInt8) (hc : c.toNat < 128) (w : World) :
    Calls Tryz.prog 18 #[.string s, .string ⟨#[c]⟩] w fun e w' => e = .returned (.string ⟨(Lib.trimLeftB s.data.toList c).toArray⟩) ∧ w' = w := Any.strings_TrimLeft_one Tryz.lays161 s c hc w
def Tryz.lays137_ren : Go.Shelf.Ren := ⟨fun | 137 => 67 | 217 => 101 | 266 => 128 | n => n, fun | 9 => 9 | 5 => 5 | 3 => 3 | n => n, fun | n => n⟩
theorem Tryz.lays137 : Go.Proofs.Lays.n137 Tryz.prog Tryz.lays137_ren := {
  mixed := by kernel_rfl
  f137 := Tryz.func67.trans (congrArg some (by kernel_rfl))
  f217 := Tryz.func101.trans (congrArg some (by kernel_rfl))
  f266 := Tryz.func128.trans (congrArg some (by kernel_rfl))
  t3 := Tryz.underlying3
  a3 := Tryz.isAgg3
  z3 := Tryz.sizeOf3
  v3 := Tryz.zeroValue3
  t5 := Tryz.underlying5
  a5 := Tryz.isAgg5
  z5 := Tryz.sizeOf5
  v5 := Tryz.zeroValue5
  t9 := Tryz.underlying9
  a9 := Tryz.isAgg9
  z9 := Tryz.sizeOf9
  v9 := Tryz.zeroValue9 }
open Go.RowKit in
theorem Tryz.strings_IndexByte (s : ByteArray) (c : Int) (w : World) :
    Calls Tryz.prog 67 #[.string s, .int .u8 c] w fun e w' => e = .returned (.int .i64 (Lib.indexByte s.data.toList c.toNat.toUInt8)) ∧ w' = w := Any.strings_IndexByte Tryz.lays137 s c w
def Tryz.lays244_ren : Go.Shelf.Ren := ⟨fun | 244 => 142 | 247 => 150 | 287 => 157 | 321 => 161 | 322 => 162 | n => n, fun | 9 => 9 | 3 => 3 | 75 => 54 | 4 => 4 | 5 => 5 | 167 => 160 | 37 => 41 | 0 => 0 | 85 => 161 | 2 => 2 | 53 => 45 | 175 => 170 | 46 => 46 | 21 => 21 | 80 => 61 | n => n, fun | n => n⟩
theorem Tryz.lays244 : Go.Proofs.Lays.n244 Tryz.prog Tryz.lays244_ren := {
  mixed := by kernel_rfl
  f244 := Tryz.func142.trans (congrArg some (by kernel_rfl))
  f247 := Tryz.func150.trans (congrArg some (by kernel_rfl))
  f287 := Tryz.func157.trans (congrArg some (by kernel_rfl))
  f321 := Tryz.func161.trans (congrArg some (by kernel_rfl))
  f322 := Tryz.func162.trans (congrArg some (by kernel_rfl))
  t0 := Tryz.underlying0
  a0 := Tryz.isAgg0
  z0 := Tryz.sizeOf0
  v0 := Tryz.zeroValue0
  t2 := Tryz.underlying2
  a2 := Tryz.isAgg2
  z2 := Tryz.sizeOf2
  v2 := Tryz.zeroValue2
  t3 := Tryz.underlying3
  a3 := Tryz.isAgg3
  z3 := Tryz.sizeOf3
  v3 := Tryz.zeroValue3
  t4 := Tryz.underlying4
  a4 := Tryz.isAgg4
  z4 := Tryz.sizeOf4
  v4 := Tryz.zeroValue4
  t5 := Tryz.underlying5
  a5 := Tryz.isAgg5
  z5 := Tryz.sizeOf5
  v5 := Tryz.zeroValue5
  t9 := Tryz.underlying9
  a9 := Tryz.isAgg9
  z9 := Tryz.sizeOf9
  v9 := Tryz.zeroValue9
  t21 := Tryz.underlying21
  a21 := Tryz.isAgg21
  z21 := Tryz.sizeOf21
  v21 := Tryz.zeroValue21
  t37 := Tryz.underlying41
  a37 := Tryz.isAgg41
  z37 := Tryz.sizeOf41
  v37 := Tryz.zeroValue41
  t46 := Tryz.underlying46
  a46 := Tryz.isAgg46
  z46 := Tryz.sizeOf46
  v46 := Tryz.zeroValue46
  t53 := Tryz.underlying45
  a53 := Tryz.isAgg45
  z53 := Tryz.sizeOf45
  v53 := Tryz.zeroValue45
  t75 := Tryz.underlying54
  a75 := Tryz.isAgg54
  z75 := Tryz.sizeOf54
  v75 := Tryz.zeroValue54
  t85 := Tryz.underlying161
  a85 := Tryz.isAgg161
  z85 := Tryz.sizeOf161
  v85 := Tryz.zeroValue161
  t167 := Tryz.underlying160
  a167 := Tryz.isAgg160
  z167 := Tryz.sizeOf160
  v167 := Tryz.zeroValue160
  t175 := Tryz.underlying170
  a175 := Tryz.isAgg170
  z175 := Tryz.sizeOf170
  v175 := Tryz.zeroValue170 }
open Go.RowKit in
theorem Tryz.internal_strconv_Atoi (s : ByteArray) (n : Int) (hl : s.size ≤ 18) (h : Lib.atoi s.data.toList = some n) (w : World) :
    Calls Tryz.prog 142 #[.string s] w fun e w' => e = .returned (.tuple #[.int .i64 n, .nilIface]) ∧ ∃ t, w' = Lib.bytesWorld w 5 t := Any.internal_strconv_Atoi Tryz.lays244 s n hl h w
def Tryz.lays172_ren : Go.Shelf.Ren := ⟨fun | 172 => 129 | 244 => 142 | 245 => 143 | 247 => 150 | 279 => 151 | 280 => 152 | 281 => 153 | 282 => 154 | 287 => 157 | 316 => 158 | 171 => 25 | 205 => 159 | 321 => 161 | 322 => 162 | 243 => 57 | 246 => 93 | 283 => 122 | 284 => 123 | 285 => 124 | 286 => 125 | 129 => 138 | 317 => 137 | 318 => 139 | 319 => 140 | 320 => 141 | 337 => 149 | 338 => 95 | n => n, fun | 9 => 9 | 3 => 3 | 75 => 54 | 76 => 55 | 4 => 4 | 5 => 5 | 167 => 160 | 37 => 41 | 0 => 0 | 85 => 161 | 2 => 2 | 168 => 163 | 53 => 45 | 175 => 170 | 46 => 46 | 210 => 174 | 127 => 100 | 145 => 180 | 143 => 178 | 21 => 21 | 171 => 136 | 173 => 138 | 212 => 151 | 51 => 143 | 20 => 20 | 213 => 152 | 232 => 169 | 233 => 140 | 80 => 61 | n => n, fun | 15 => 7 | 16 => 8 | 17 => 5 | 18 => 6 | 19 => 2 | n => n⟩
theorem Tryz.lays172 : Go.Proofs.Lays.n172 Tryz.prog Tryz.lays172_ren := {
  mixed := by kernel_rfl
  f129 := Tryz.func138.trans (congrArg some (by kernel_rfl))
  f171 := Tryz.func25.trans (congrArg some (by kernel_rfl))
  f172 := Tryz.func129.trans (congrArg some (by kernel_rfl))
  f205 := Tryz.func159.trans (congrArg some (by kernel_rfl))
  f243 := Tryz.func57.trans (congrArg some (by kernel_rfl))
  f244 := Tryz.func142.trans (congrArg some (by kernel_rfl))
  f245 := Tryz.func143.trans (congrArg some (by kernel_rfl))
  f246 := Tryz.func93.trans (congrArg some (by kernel_rfl))
  f247 := Tryz.func150.trans (congrArg some (by kernel_rfl))
  f279 := Tryz.func151.trans (congrArg some (by kernel_rfl))
  f280 := Tryz.func152.trans (congrArg some (by kernel_rfl))
  f281 := Tryz.func153.trans (congrArg some (by kernel_rfl))
  f282 := Tryz.func154.trans (congrArg some (by kernel_rfl))
  f283 := Tryz.func122.trans (congrArg some (by kernel_rfl))
  f284 := Tryz.func123.trans (congrArg some (by kernel_rfl))
  f285 := Tryz.func124.trans (congrArg some (by kernel_rfl))
  f286 := Tryz.func125.trans (congrArg some (by kernel_rfl))
  f287 := Tryz.func157.trans (congrArg some (by kernel_rfl))
  f316 := Tryz.func158.trans (congrArg some (by kernel_rfl))
  f317 := Tryz.func137.trans (congrArg some (by kernel_rfl))
  f318 := Tryz.func139.trans (congrArg some (by kernel_rfl))
  f319 := Tryz.func140.trans (congrArg some (by kernel_rfl))
  f320 := Tryz.func141.trans (congrArg some (by kernel_rfl))
  f321 := Tryz.func161.trans (congrArg some (by kernel_rfl))
  f322 := Tryz.func162.trans (congrArg some (by kernel_rfl))
  f337 := Tryz.func149.trans (congrArg some (by kernel_rfl))
  f338 := Tryz.func95.trans (congrArg some (by kernel_rfl))
  t0 := Tryz.underlying0
  a0 := Tryz.isAgg0
  z0 := Tryz.sizeOf0
  v0 := Tryz.zeroValue0
  t2 := Tryz.underlying2
  a2 := Tryz.isAgg2
  z2 := Tryz.sizeOf2
  v2 := Tryz.zeroValue2
  t3 := Tryz.underlying3
  a3 := Tryz.isAgg3
  z3 := Tryz.sizeOf3
  v3 := Tryz.zeroValue3
  t4 := Tryz.underlying4
  a4 := Tryz.isAgg4
  z4 := Tryz.sizeOf4
  v4 := Tryz.zeroValue4
  t5 := Tryz.underlying5
  a5 := Tryz.isAgg5
  z5 := Tryz.sizeOf5
  v5 := Tryz.zeroValue5
  t9 := Tryz.underlying9
  a9 := Tryz.isAgg9
  z9 := Tryz.sizeOf9
  v9 := Tryz.zeroValue9
  t20 := Tryz.underlying20
  a20 := Tryz.isAgg20
  z20 := Tryz.sizeOf20
  v20 := Tryz.zeroValue20
  t21 := Tryz.underlying21
  a21 := Tryz.isAgg21
  z21 := Tryz.sizeOf21
  v21 := Tryz.zeroValue21
  t37 := Tryz.underlying41
  a37 := Tryz.isAgg41
  z37 := Tryz.sizeOf41
  v37 := Tryz.zeroValue41
  t46 := Tryz.underlying46
  a46 := Tryz.isAgg46
  z46 := Tryz.sizeOf46
  v46 := Tryz.zeroValue46
  t51 := Tryz.underlying143
  a51 := Tryz.isAgg143
  z51 := Tryz.sizeOf143
  v51 := Tryz.zeroValue143
  t53 := Tryz.underlying45
  a53 := Tryz.isAgg45
  z53 := Tryz.sizeOf45
  v53 := Tryz.zeroValue45
  t75 := Tryz.underlying54
  a75 := Tryz.isAgg54
  z75 := Tryz.sizeOf54
  v75 := Tryz.zeroValue54
  t76 := Tryz.underlying55
  a76 := Tryz.isAgg55
  z76 := Tryz.sizeOf55
  v76 := Tryz.zeroValue55
  t85 := Tryz.underlying161
  a85 := Tryz.isAgg161
  z85 := Tryz.sizeOf161
  v85 := Tryz.zeroValue161
  t127 := Tryz.underlying100
  a127 := Tryz.isAgg100
  z127 := Tryz.sizeOf100
  v127 := Tryz.zeroValue100
  t143 := Tryz.underlying178
  a143 := Tryz.isAgg178
  z143 := Tryz.sizeOf178
  v143 := Tryz.zeroValue178
  t145 := Tryz.underlying180
  a145 := Tryz.isAgg180
  z145 := Tryz.sizeOf180
  v145 := Tryz.zeroValue180
  t167 := Tryz.underlying160
  a167 := Tryz.isAgg160
  z167 := Tryz.sizeOf160
  v167 := Tryz.zeroValue160
  t168 := Tryz.underlying163
  a168 := Tryz.isAgg163
  z168 := Tryz.sizeOf163
  v168 := Tryz.zeroValue163
  t171 := Tryz.underlying136
  a171 := Tryz.isAgg136
  z171 := Tryz.sizeOf136
  v171 := Tryz.zeroValue136
  t173 := Tryz.underlying138
  a173 := Tryz.isAgg138
  z173 := Tryz.sizeOf138
  v173 := Tryz.zeroValue138
  t175 := Tryz.underlying170
  a175 := Tryz.isAgg170
  z175 := Tryz.sizeOf170
  v175 := Tryz.zeroValue170
  t210 := Tryz.underlying174
  a210 := Tryz.isAgg174
  z210 := Tryz.sizeOf174
  v210 := Tryz.zeroValue174
  t212 := Tryz.underlying151
  a212 := Tryz.isAgg151
  z212 := Tryz.sizeOf151
  v212 := Tryz.zeroValue151
  t213 := Tryz.underlying152
  a213 := Tryz.isAgg152
  z213 := Tryz.sizeOf152
  t232 := Tryz.underlying169
  a232 := Tryz.isAgg169
  z232 := Tryz.sizeOf169
  v232 := Tryz.zeroValue169
  t233 := Tryz.underlying140
  a233 := Tryz.isAgg140
  z233 := Tryz.sizeOf140
  v233 := Tryz.zeroValue140
  g15 := by kernel_rfl
  g16 := by kernel_rfl
  g17 := by kernel_rfl
  g18 := by kernel_rfl
  g19 := by kernel_rfl }
open Go.RowKit in
theorem Tryz.strconv_Atoi (s : ByteArray) (n : Int) (hl : s.size ≤ 18) (h : Lib.atoi s.data.toList = some n) (w : World) :
    Calls Tryz.prog 129 #[.string s] w fun e w' => e = .returned (.tuple #[.int .i64 n, .nilIface]) ∧ ∃ t, w' = Lib.bytesWorld w 5 t := Any.strconv_Atoi Tryz.lays172 s n hl h w
def Tryz.lays171_ren : Go.Shelf.Ren := ⟨fun | 171 => 25 | 243 => 57 | 246 => 93 | 283 => 122 | 284 => 123 | 285 => 124 | 286 => 125 | 129 => 138 | 317 => 137 | 318 => 139 | 319 => 140 | 320 => 141 | 337 => 149 | 338 => 95 | n => n, fun | 3 => 3 | 9 => 9 | 2 => 2 | 4 => 4 | 171 => 136 | 0 => 0 | 53 => 45 | 37 => 41 | 5 => 5 | 173 => 138 | 212 => 151 | 51 => 143 | 20 => 20 | 213 => 152 | 46 => 46 | 232 => 169 | 233 => 140 | n => n, fun | 17 => 5 | 18 => 6 | 19 => 2 | n => n⟩
theorem Tryz.lays171 : Go.Proofs.Lays.n171 Tryz.prog Tryz.lays171_ren := {
  mixed := by kernel_rfl
  f129 := Tryz.func138.trans (congrArg some (by kernel_rfl))
  f171 := Tryz.func25.trans (congrArg some (by kernel_rfl))
  f243 := Tryz.func57.trans (congrArg some (by kernel_rfl))
  f246 := Tryz.func93.trans (congrArg some (by kernel_rfl))
  f283 := Tryz.func122.trans (congrArg some (by kernel_rfl))
  f284 := Tryz.func123.trans (congrArg some (by kernel_rfl))
  f285 := Tryz.func124.trans (congrArg some (by kernel_rfl))
  f286 := Tryz.func125.trans (congrArg some (by kernel_rfl))
  f317 := Tryz.func137.trans (congrArg some (by kernel_rfl))
  f318 := Tryz.func139.trans (congrArg some (by kernel_rfl))
  f319 := Tryz.func140.trans (congrArg some (by kernel_rfl))
  f320 := Tryz.func141.trans (congrArg some (by kernel_rfl))
  f337 := Tryz.func149.trans (congrArg some (by kernel_rfl))
  f338 := Tryz.func95.trans (congrArg some (by kernel_rfl))
  t0 := Tryz.underlying0
  a0 := Tryz.isAgg0
  z0 := Tryz.sizeOf0
  v0 := Tryz.zeroValue0
  t2 := Tryz.underlying2
  a2 := Tryz.isAgg2
  z2 := Tryz.sizeOf2
  v2 := Tryz.zeroValue2
  t3 := Tryz.underlying3
  a3 := Tryz.isAgg3
  z3 := Tryz.sizeOf3
  v3 := Tryz.zeroValue3
  t4 := Tryz.underlying4
  a4 := Tryz.isAgg4
  z4 := Tryz.sizeOf4
  v4 := Tryz.zeroValue4
  t5 := Tryz.underlying5
  a5 := Tryz.isAgg5
  z5 := Tryz.sizeOf5
  v5 := Tryz.zeroValue5
  t9 := Tryz.underlying9
  a9 := Tryz.isAgg9
  z9 := Tryz.sizeOf9
  v9 := Tryz.zeroValue9
  t20 := Tryz.underlying20
  a20 := Tryz.isAgg20
  z20 := Tryz.sizeOf20
  v20 := Tryz.zeroValue20
  t37 := Tryz.underlying41
  a37 := Tryz.isAgg41
  z37 := Tryz.sizeOf41
  v37 := Tryz.zeroValue41
  t46 := Tryz.underlying46
  a46 := Tryz.isAgg46
  z46 := Tryz.sizeOf46
  v46 := Tryz.zeroValue46
  t51 := Tryz.underlying143
  a51 := Tryz.isAgg143
  z51 := Tryz.sizeOf143
  v51 := Tryz.zeroValue143
  t53 := Tryz.underlying45
  a53 := Tryz.isAgg45
  z53 := Tryz.sizeOf45
  v53 := Tryz.zeroValue45
  t171 := Tryz.underlying136
  a171 := Tryz.isAgg136
  z171 := Tryz.sizeOf136
  v171 := Tryz.zeroValue136
  t173 := Tryz.underlying138
  a173 := Tryz.isAgg138
  z173 := Tryz.sizeOf138
  v173 := Tryz.zeroValue138
  t212 := Tryz.underlying151
  a212 := Tryz.isAgg151
  z212 := Tryz.sizeOf151
  v212 := Tryz.zeroValue151
  t213 := Tryz.underlying152
  a213 := Tryz.isAgg152
  z213 := Tryz.sizeOf152
  t232 := Tryz.underlying169
  a232 := Tryz.isAgg169
  z232 := Tryz.sizeOf169
  v232 := Tryz.zeroValue169
  t233 := Tryz.underlying140
  a233 := Tryz.isAgg140
  z233 := Tryz.sizeOf140
  v233 := Tryz.zeroValue140
  g17 := by kernel_rfl
  g18 := by kernel_rfl
  g19 := by kernel_rfl }
open Go.RowKit Go.Sort Go.Lib in
theorem Tryz.strconv_Itoa_small (i : Nat) (hi : i < 100) (w : World) :
    Calls Tryz.prog 25 #[.int .i64 i] w fun e w' => e = .returned (.string ⟨(Lib.decDigits i).toArray⟩) ∧ w' = w := Any.strconv_Itoa_small Tryz.lays171 i hi w
def Tryz.lays143_ren : Go.Shelf.Ren := ⟨fun | 143 => 40 | 219 => 80 | 217 => 101 | 225 => 113 | 224 => 114 | 267 => 115 | 266 => 128 | 314 => 135 | n => n, fun | 9 => 9 | 3 => 3 | 4 => 4 | 5 => 5 | 46 => 46 | 146 => 144 | 51 => 143 | n => n, fun | 1 => 0 | n => n⟩
theorem Tryz.lays143 : Go.Proofs.Lays.n143 Tryz.prog Tryz.lays143_ren := {
  mixed := by kernel_rfl
  f143 := Tryz.func40.trans (congrArg some (by kernel_rfl))
  f217 := Tryz.func101.trans (congrArg some (by kernel_rfl))
  f219 := Tryz.func80.trans (congrArg some (by kernel_rfl))
  f224 := Tryz.func114.trans (congrArg some (by kernel_rfl))
  f225 := Tryz.func113.trans (congrArg some (by kernel_rfl))
  f266 := Tryz.func128.trans (congrArg some (by kernel_rfl))
  f267 := Tryz.func115.trans (congrArg some (by kernel_rfl))
  f314 := Tryz.func135.trans (congrArg some (by kernel_rfl))
  t3 := Tryz.underlying3
  a3 := Tryz.isAgg3
  z3 := Tryz.sizeOf3
  v3 := Tryz.zeroValue3
  t4 := Tryz.underlying4
  a4 := Tryz.isAgg4
  z4 := Tryz.sizeOf4
  v4 := Tryz.zeroValue4
  t5 := Tryz.underlying5
  a5 := Tryz.isAgg5
  z5 := Tryz.sizeOf5
  v5 := Tryz.zeroValue5
  t9 := Tryz.underlying9
  a9 := Tryz.isAgg9
  z9 := Tryz.sizeOf9
  v9 := Tryz.zeroValue9
  t46 := Tryz.underlying46
  a46 := Tryz.isAgg46
  z46 := Tryz.sizeOf46
  v46 := Tryz.zeroValue46
  t51 := Tryz.underlying143
  a51 := Tryz.isAgg143
  z51 := Tryz.sizeOf143
  v51 := Tryz.zeroValue143
  t146 := Tryz.underlying144
  a146 := Tryz.isAgg144
  z146 := Tryz.sizeOf144
  v146 := Tryz.zeroValue144
  g1 := by kernel_rfl }
open Go.RowKit Go.Lib in
theorem Tryz.strings_Index_one (s : ByteArray) (c : UInt8) (w : World) :
    Calls Tryz.prog 40 #[.string s, .string ⟨#[c]⟩] w fun e w' => e = .returned (.int .i64 (Lib.indexByte s.data.toList c)) ∧ w' = w := Any.strings_Index_one Tryz.lays143 s c w
open Go.RowKit Go.Lib in
theorem Tryz.strings_Index (s sub : ByteArray) (m : Int) (w : World) (hs : s.size < 4294967281) (hm : w.cell? ⟨0, 0, none⟩ = some (.int .i64 m)) :
    Calls Tryz.prog 40 #[.string s, .string sub] w fun e w' => e = .returned (.int .i64 (Lib.index s.data.toList sub.data.toList)) ∧ w' = w := Any.strings_Index Tryz.lays143 s sub m w hs hm
def Tryz.lays138_ren : Go.Shelf.Ren := ⟨fun | 138 => 16 | 195 => 38 | 218 => 39 | 143 => 40 | 219 => 80 | 217 => 101 | 225 => 113 | 224 => 114 | 267 => 115 | 266 => 128 | 314 => 135 | n => n, fun | 9 => 9 | 3 => 3 | 4 => 4 | 5 => 5 | 0 => 0 | 46 => 46 | 146 => 144 | 51 => 143 | n => n, fun | 1 => 0 | n => n⟩
theorem Tryz.lays138 : Go.Proofs.Lays.n138 Tryz.prog Tryz.lays138_ren := {
  mixed := by kernel_rfl
  f138 := Tryz.func16.trans (congrArg some (by kernel_rfl))
  f143 := Tryz.func40.trans (congrArg some (by kernel_rfl))
  f195 := Tryz.func38.trans (congrArg some (by kernel_rfl))
  f217 := Tryz.func101.trans (congrArg some (by kernel_rfl))
  f218 := Tryz.func39.trans (congrArg some (by kernel_rfl))
  f219 := Tryz.func80.trans (congrArg some (by kernel_rfl))
  f224 := Tryz.func114.trans (congrArg some (by kernel_rfl))
  f225 := Tryz.func113.trans (congrArg some (by kernel_rfl))
  f266 := Tryz.func128.trans (congrArg some (by kernel_rfl))
  f267 := Tryz.func115.trans (congrArg some (by kernel_rfl))
  f314 := Tryz.func135.trans (congrArg some (by kernel_rfl))
  t0 := Tryz.underlying0
  a0 := Tryz.isAgg0
  z0 := Tryz.sizeOf0
  v0 := Tryz.zeroValue0
  t3 := Tryz.underlying3
  a3 := Tryz.isAgg3
  z3 := Tryz.sizeOf3
  v3 := Tryz.zeroValue3
  t4 := Tryz.underlying4
  a4 := Tryz.isAgg4
  z4 := Tryz.sizeOf4
  v4 := Tryz.zeroValue4
  t5 := Tryz.underlying5
  a5 := Tryz.isAgg5
  z5 := Tryz.sizeOf5
  v5 := Tryz.zeroValue5
  t9 := Tryz.underlying9
  a9 := Tryz.isAgg9
  z9 := Tryz.sizeOf9
  v9 := Tryz.zeroValue9
  t46 := Tryz.underlying46
  a46 := Tryz.isAgg46
  z46 := Tryz.sizeOf46
  v46 := Tryz.zeroValue46
  t51 := Tryz.underlying143
  a51 := Tryz.isAgg143
  z51 := Tryz.sizeOf143
  v51 := Tryz.zeroValue143
  t146 := Tryz.underlying144
  a146 := Tryz.isAgg144
  z146 := Tryz.sizeOf144
  v146 := Tryz.zeroValue144
  g1 := by kernel_rfl }
open Go.RowKit Go.Lib in
theorem Tryz.strings_Count_one (s : ByteArray) (c : UInt8) (w : World) :
    Calls Tryz.prog 16 #[.string s, .string ⟨#[c]⟩] w fun e w' => e = .returned (.int .i64 (Lib.countByte s.data.toList c)) ∧ w' = w := Any.strings_Count_one Tryz.lays138 s c w
open Go.RowKit Go.Lib in
theorem Tryz.strings_Count (s sub : ByteArray) (m : Int) (w : World) (hs : s.size < 4294967281) (hm : w.cell? ⟨0, 0, none⟩ = some (.int .i64 m)) (h2 : 2 ≤ sub.size) :
    Calls Tryz.prog 16 #[.string s, .string sub] w fun e w' => e = .returned (.int .i64 (Lib.countB s sub)) ∧ w' = w := Any.strings_Count Tryz.lays138 s sub m w hs hm h2
def Tryz.lays146_ren : Go.Shelf.Ren := ⟨fun | 146 => 144 | 221 => 155 | 268 => 160 | 138 => 16 | 143 => 40 | 195 => 38 | 197 => 86 | 218 => 39 | 219 => 80 | 260 => 117 | 217 => 101 | 225 => 113 | 224 => 114 | 267 => 115 | 266 => 128 | 314 => 135 | n => n, fun | 9 => 9 | 31 => 22 | 3 => 3 | 4 => 4 | 0 => 0 | 105 => 113 | 21 => 21 | 5 => 5 | 46 => 46 | 119 => 146 | 139 => 149 | 138 => 148 | 146 => 144 | 51 => 143 | n => n, fun | 1 => 0 | 3 => 3 | 4 => 4 | n => n⟩
theorem Tryz.lays146 : Go.Proofs.Lays.n146 Tryz.prog Tryz.lays146_ren := {
  mixed := by kernel_rfl
  f138 := Tryz.func16.trans (congrArg some (by kernel_rfl))
  f143 := Tryz.func40.trans (congrArg some (by kernel_rfl))
  f146 := Tryz.func144.trans (congrArg some (by kernel_rfl))
  f195 := Tryz.func38.trans (congrArg some (by kernel_rfl))
  f197 := Tryz.func86.trans (congrArg some (by kernel_rfl))
  f217 := Tryz.func101.trans (congrArg some (by kernel_rfl))
  f218 := Tryz.func39.trans (congrArg some (by kernel_rfl))
  f219 := Tryz.func80.trans (congrArg some (by kernel_rfl))
  f221 := Tryz.func155.trans (congrArg some (by kernel_rfl))
  f224 := Tryz.func114.trans (congrArg some (by kernel_rfl))
  f225 := Tryz.func113.trans (congrArg some (by kernel_rfl))
  f260 := Tryz.func117.trans (congrArg some (by kernel_rfl))
  f266 := Tryz.func128.trans (congrArg some (by kernel_rfl))
  f267 := Tryz.func115.trans (congrArg some (by kernel_rfl))
  f268 := Tryz.func160.trans (congrArg some (by kernel_rfl))
  f314 := Tryz.func135.trans (congrArg some (by kernel_rfl))
  t0 := Tryz.underlying0
  a0 := Tryz.isAgg0
  z0 := Tryz.sizeOf0
  v0 := Tryz.zeroValue0
  t3 := Tryz.underlying3
  a3 := Tryz.isAgg3
  z3 := Tryz.sizeOf3
  v3 := Tryz.zeroValue3
  t4 := Tryz.underlying4
  a4 := Tryz.isAgg4
  z4 := Tryz.sizeOf4
  v4 := Tryz.zeroValue4
  t5 := Tryz.underlying5
  a5 := Tryz.isAgg5
  z5 := Tryz.sizeOf5
  v5 := Tryz.zeroValue5
  t9 := Tryz.underlying9
  a9 := Tryz.isAgg9
  z9 := Tryz.sizeOf9
  v9 := Tryz.zeroValue9
  t21 := Tryz.underlying21
  a21 := Tryz.isAgg21
  z21 := Tryz.sizeOf21
  v21 := Tryz.zeroValue21
  t31 := Tryz.underlying22
  a31 := Tryz.isAgg22
  z31 := Tryz.sizeOf22
  v31 := Tryz.zeroValue22
  t46 := Tryz.underlying46
  a46 := Tryz.isAgg46
  z46 := Tryz.sizeOf46
  v46 := Tryz.zeroValue46
  t51 := Tryz.underlying143
  a51 := Tryz.isAgg143
  z51 := Tryz.sizeOf143
  v51 := Tryz.zeroValue143
  t105 := Tryz.underlying113
  a105 := Tryz.isAgg113
  z105 := Tryz.sizeOf113
  v105 := Tryz.zeroValue113
  t119 := Tryz.underlying146
  a119 := Tryz.isAgg146
  z119 := Tryz.sizeOf146
  t138 := Tryz.underlying148
  a138 := Tryz.isAgg148
  z138 := Tryz.sizeOf148
  v138 := Tryz.zeroValue148
  t139 := Tryz.underlying149
  a139 := Tryz.isAgg149
  z139 := Tryz.sizeOf149
  v139 := Tryz.zeroValue149
  t146 := Tryz.underlying144
  a146 := Tryz.isAgg144
  z146 := Tryz.sizeOf144
  v146 := Tryz.zeroValue144
  g1 := by kernel_rfl
  g3 := by kernel_rfl
  g4 := by kernel_rfl }
open Go.RowKit Go.Lib in
theorem Tryz.strings_Split (s sep : ByteArray) (m : Int) (w : World) (hs : s.size < 4294967281) (hm : w.cell? ⟨0, 0, none⟩ = some (.int .i64 m)) (h1 : 1 ≤ sep.size) :
    Calls Tryz.prog 144 #[.string s, .string sep] w fun e w' =>
      e = .returned (.slice (some ⟨w.heap.size, 0, none⟩) (Lib.countB s sep + 1) (Lib.countB s sep + 1)) ∧ w' = w.alloc (.cells ((Lib.splitB sep 0 (Lib.countB s sep) s).map Value.string).toArray 9) := Any.strings_Split Tryz.lays146 (by kernel_rfl) s sep m w hs hm h1
def Tryz.laysM146_ren : Go.Shelf.Ren := ⟨fun | 146 => 144 | 221 => 155 | 268 => 160 | 138 => 16 | 143 => 40 | 195 => 38 | 197 => 86 | 218 => 39 | 219 => 80 | 260 => 117 | 217 => 101 | 225 => 113 | 224 => 114 | 267 => 115 | 266 => 128 | 314 => 135 | n => n, fun | 9 => 9 | 31 => 22 | 3 => 3 | 4 => 4 | 0 => 0 | 105 => 113 | 21 => 21 | 5 => 5 | 46 => 46 | 119 => 146 | 139 => 149 | 138 => 148 | 146 => 144 | 51 => 143 | n => n, fun | 1 => 0 | 3 => 3 | 4 => 4 | n => n⟩
theorem Tryz.laysM146 : Go.Proofs.LaysM.n146 Tryz.prog Tryz.laysM146_ren := {
  mixed := by kernel_rfl
  f138 := Tryz.func16.trans (congrArg some (by kernel_rfl))
  f143 := Tryz.func40.trans (congrArg some (by kernel_rfl))
  f146 := Tryz.func144.trans (congrArg some (by kernel_rfl))
  f195 := Tryz.func38.trans (congrArg some (by kernel_rfl))
  f197 := Tryz.func86.trans (congrArg some (by kernel_rfl))
  f217 := Tryz.func101.trans (congrArg some (by kernel_rfl))
  f218 := Tryz.func39.trans (congrArg some (by kernel_rfl))
  f219 := Tryz.func80.trans (congrArg some (by kernel_rfl))
  f221 := Tryz.func155.trans (congrArg some (by kernel_rfl))
  f224 := Tryz.func114.trans (congrArg some (by kernel_rfl))
  f225 := Tryz.func113.trans (congrArg some (by kernel_rfl))
  f260 := Tryz.func117.trans (congrArg some (by kernel_rfl))
  f266 := Tryz.func128.trans (congrArg some (by kernel_rfl))
  f267 := Tryz.func115.trans (congrArg some (by kernel_rfl))
  f268 := Tryz.func160.trans (congrArg some (by kernel_rfl))
  f314 := Tryz.func135.trans (congrArg some (by kernel_rfl))
  t0 := Tryz.underlying0
  a0 := Tryz.isAgg0
  z0 := Tryz.sizeOf0
  v0 := Tryz.zeroValue0
  t3 := Tryz.underlying3
  a3 := Tryz.isAgg3
  z3 := Tryz.sizeOf3
  v3 := Tryz.zeroValue3
  t4 := Tryz.underlying4
  a4 := Tryz.isAgg4
  z4 := Tryz.sizeOf4
  v4 := Tryz.zeroValue4
  t5 := Tryz.underlying5
  a5 := Tryz.isAgg5
  z5 := Tryz.sizeOf5
  v5 := Tryz.zeroValue5
  t9 := Tryz.underlying9
  a9 := Tryz.isAgg9
  z9 := Tryz.sizeOf9
  v9 := Tryz.zeroValue9
  t21 := Tryz.underlying21
  a21 := Tryz.isAgg21
  z21 := Tryz.sizeOf21
  v21 := Tryz.zeroValue21
  t31 := Tryz.underlying22
  a31 := Tryz.isAgg22
  z31 := Tryz.sizeOf22
  v31 := Tryz.zeroValue22
  t46 := Tryz.underlying46
  a46 := Tryz.isAgg46
  z46 := Tryz.sizeOf46
  v46 := Tryz.zeroValue46
  t51 := Tryz.underlying143
  a51 := Tryz.isAgg143
  z51 := Tryz.sizeOf143
  v51 := Tryz.zeroValue143
  t105 := Tryz.underlying113
  a105 := Tryz.isAgg113
  z105 := Tryz.sizeOf113
  v105 := Tryz.zeroValue113
  t119 := Tryz.underlying146
  a119 := Tryz.isAgg146
  z119 := Tryz.sizeOf146
  t138 := Tryz.underlying148
  a138 := Tryz.isAgg148
  z138 := Tryz.sizeOf148
  v138 := Tryz.zeroValue148
  t139 := Tryz.underlying149
  a139 := Tryz.isAgg149
  z139 := Tryz.sizeOf149
  v139 := Tryz.zeroValue149
  t146 := Tryz.underlying144
  a146 := Tryz.isAgg144
  z146 := Tryz.sizeOf144
  v146 := Tryz.zeroValue144
  g1 := by kernel_rfl
  g3 := by kernel_rfl
  g4 := by kernel_rfl
  i0 := by kernel_rfl
  i3 := by kernel_rfl
  i4 := by kernel_rfl
  i5 := by kernel_rfl
  i9 := by kernel_rfl
  i21 := by kernel_rfl
  i31 := by kernel_rfl
  i46 := by kernel_rfl
  i51 := by kernel_rfl
  i105 := by kernel_rfl
  i138 := by kernel_rfl
  i139 := by kernel_rfl
  i146 := by kernel_rfl
  m1 := by kernel_rfl
  s1_3 := fun w h => Go.Proofs.cell_of_shapedOpen_int (zero := #[.int .i64 0]) (t := 3) h (of_decide_eq_true (by kernel_rfl)) (by kernel_rfl) rfl (by kernel_rfl) (by kernel_rfl) Tryz.underlying3
  m3 := by kernel_rfl
  m4 := by kernel_rfl }
open Go.RowKit Go.Lib in
theorem Tryz.strings_Split_shaped (s sep : ByteArray) (w : World) (h : w.ShapedOpen Tryz.prog) (hs : s.size < 4294967281) (h1 : 1 ≤ sep.size) :
    Calls Tryz.prog 144 #[.string s, .string sep] w fun e w' =>
      e = .returned (.slice (some ⟨w.heap.size, 0, none⟩) (Lib.countB s sep + 1) (Lib.countB s sep + 1)) ∧ w' = w.alloc (.cells ((Lib.splitB sep 0 (Lib.countB s sep) s).map Value.string).toArray 9) := Any.strings_Split_shaped Tryz.laysM146 s sep w h hs h1
def Tryz.lays109_ren : Go.Shelf.Ren := ⟨fun | 109 => 90 | n => n, fun | 31 => 22 | 9 => 9 | 3 => 3 | 0 => 0 | 4 => 4 | n => n, fun | n => n⟩
theorem Tryz.lays109 : Go.Proofs.Lays.n109 Tryz.prog Tryz.lays109_ren := {
  mixed := by kernel_rfl
  f109 := Tryz.func90.trans (congrArg some (by kernel_rfl))
  t0 := Tryz.underlying0
  a0 := Tryz.isAgg0
  z0 := Tryz.sizeOf0
  v0 := Tryz.zeroValue0
  t3 := Tryz.underlying3
  a3 := Tryz.isAgg3
  z3 := Tryz.sizeOf3
  v3 := Tryz.zeroValue3
  t4 := Tryz.underlying4
  a4 := Tryz.isAgg4
  z4 := Tryz.sizeOf4
  v4 := Tryz.zeroValue4
  t9 := Tryz.underlying9
  a9 := Tryz.isAgg9
  z9 := Tryz.sizeOf9
  v9 := Tryz.zeroValue9
  t31 := Tryz.underlying22
  a31 := Tryz.isAgg22
  z31 := Tryz.sizeOf22
  v31 := Tryz.zeroValue22 }
open Go.Lib in
theorem Tryz.slices_Index_string (b off n c : Nat) (zs : List ByteArray) (x : ByteArray) (w : World) (hz : n ≤ zs.length) (hbig : n ≤ 9223372036854775807) (hc : ∀ j, j < zs.length → w.cell? ⟨b, off + j, none⟩ = some (.string (zs.getD j ByteArray.empty))) :
    Calls Tryz.prog 90 #[.slice (some ⟨b, off, none⟩) n c, .string x] w fun e w' => e = .returned (.int .i64 (Lib.idxOfS (zs.take n) x)) ∧ w' = w := Any.slices_Index_string Tryz.lays109 b off n c zs x w hz hbig hc
open Go.Lib in
theorem Tryz.slices_Index_string_empty (a : Option Addr) (c : Nat) (x : ByteArray) (w : World) :
    Calls Tryz.prog 90 #[.slice a 0 c, .string x] w fun e w' => e = .returned (.int .i64 (Lib.idxOfS [] x)) ∧ w' = w := Any.slices_Index_string_empty Tryz.lays109 a c x w
def Tryz.lays110_ren : Go.Shelf.Ren := ⟨fun | 110 => 54 | 109 => 90 | n => n, fun | 31 => 22 | 9 => 9 | 4 => 4 | 3 => 3 | 0 => 0 | n => n, fun | n => n⟩
theorem Tryz.lays110 : Go.Proofs.Lays.n110 Tryz.prog Tryz.lays110_ren := {
  mixed := by kernel_rfl
  f109 := Tryz.func90.trans (congrArg some (by kernel_rfl))
  f110 := Tryz.func54.trans (congrArg some (by kernel_rfl))
  t0 := Tryz.underlying0
  a0 := Tryz.isAgg0
  z0 := Tryz.sizeOf0
  v0 := Tryz.zeroValue0
  t3 := Tryz.underlying3
  a3 := Tryz.isAgg3
  z3 := Tryz.sizeOf3
  v3 := Tryz.zeroValue3
  t4 := Tryz.underlying4
  a4 := Tryz.isAgg4
  z4 := Tryz.sizeOf4
  v4 := Tryz.zeroValue4
  t9 := Tryz.underlying9
  a9 := Tryz.isAgg9
  z9 := Tryz.sizeOf9
  v9 := Tryz.zeroValue9
  t31 := Tryz.underlying22
  a31 := Tryz.isAgg22
  z31 := Tryz.sizeOf22
  v31 := Tryz.zeroValue22 }
open Go.Lib in
theorem Tryz.slices_Contains_string (b off n c : Nat) (zs : List ByteArray) (x : ByteArray) (w : World) (hz : n ≤ zs.length) (hbig : n ≤ 9223372036854775807) (hc : ∀ j, j < zs.length → w.cell? ⟨b, off + j, none⟩ = some (.string (zs.getD j ByteArray.empty))) :
    Calls Tryz.prog 54 #[.slice (some ⟨b, off, none⟩) n c, .string x] w fun e w' => e = .returned (.bool (Lib.containsS (zs.take n) x)) ∧ w' = w := Any.slices_Contains_string Tryz.lays110 b off n c zs x w hz hbig hc
open Go.Lib in
theorem Tryz.slices_Contains_string_empty (a : Option Addr) (c : Nat) (x : ByteArray) (w : World) :
    Calls Tryz.prog 54 #[.slice a 0 c, .string x] w fun e w' => e = .returned (.bool false) ∧ w' = w := Any.slices_Contains_string_empty Tryz.lays110 a c x w
def Tryz.lays153_ren : Go.Shelf.Ren := ⟨fun | 153 => 66 | 152 => 99 | 226 => 100 | 227 => 45 | 228 => 85 | 137 => 67 | 119 => 127 | 224 => 114 | 225 => 113 | 217 => 101 | 266 => 128 | n => n, fun | 9 => 9 | 3 => 3 | 4 => 4 | 5 => 5 | 21 => 21 | 117 => 89 | 116 => 88 | 0 => 0 | 46 => 46 | 124 => 92 | n => n, fun | n => n⟩
theorem Tryz.lays153 : Go.Proofs.Lays.n153 Tryz.prog Tryz.lays153_ren := {
  mixed := by kernel_rfl
  f119 := Tryz.func127.trans (congrArg some (by kernel_rfl))
  f137 := Tryz.func67.trans (congrArg some (by kernel_rfl))
  f152 := Tryz.func99.trans (congrArg some (by kernel_rfl))
  f153 := Tryz.func66.trans (congrArg some (by kernel_rfl))
  f217 := Tryz.func101.trans (congrArg some (by kernel_rfl))
  f224 := Tryz.func114.trans (congrArg some (by kernel_rfl))
  f225 := Tryz.func113.trans (congrArg some (by kernel_rfl))
  f226 := Tryz.func100.trans (congrArg some (by kernel_rfl))
  f227 := Tryz.func45.trans (congrArg some (by kernel_rfl))
  f228 := Tryz.func85.trans (congrArg some (by kernel_rfl))
  f266 := Tryz.func128.trans (congrArg some (by kernel_rfl))
  t0 := Tryz.underlying0
  a0 := Tryz.isAgg0
  z0 := Tryz.sizeOf0
  v0 := Tryz.zeroValue0
  t3 := Tryz.underlying3
  a3 := Tryz.isAgg3
  z3 := Tryz.sizeOf3
  v3 := Tryz.zeroValue3
  t4 := Tryz.underlying4
  a4 := Tryz.isAgg4
  z4 := Tryz.sizeOf4
  v4 := Tryz.zeroValue4
  t5 := Tryz.underlying5
  a5 := Tryz.isAgg5
  z5 := Tryz.sizeOf5
  v5 := Tryz.zeroValue5
  t9 := Tryz.underlying9
  a9 := Tryz.isAgg9
  z9 := Tryz.sizeOf9
  v9 := Tryz.zeroValue9
  t21 := Tryz.underlying21
  a21 := Tryz.isAgg21
  z21 := Tryz.sizeOf21
  v21 := Tryz.zeroValue21
  t46 := Tryz.underlying46
  a46 := Tryz.isAgg46
  z46 := Tryz.sizeOf46
  v46 := Tryz.zeroValue46
  t116 := Tryz.underlying88
  a116 := Tryz.isAgg88
  z116 := Tryz.sizeOf88
  t117 := Tryz.underlying89
  a117 := Tryz.isAgg89
  z117 := Tryz.sizeOf89
  v117 := Tryz.zeroValue89
  t124 := Tryz.underlying92
  a124 := Tryz.isAgg92
  z124 := Tryz.sizeOf92
  v124 := Tryz.zeroValue92 }
open Go.RowKit Go.Lib in
theorem Tryz.strings_IndexAny_none (s chars : ByteArray) (w : World) (h0 : chars.size = 0) :
    Calls Tryz.prog 66 #[.string s, .string chars] w fun e w' => e = .returned (.int .i64 (Lib.indexAny s.data.toList chars.data.toList)) ∧ w' = w := Any.strings_IndexAny_none Tryz.lays153 s chars w h0
open Go.RowKit Go.Lib in
theorem Tryz.strings_IndexAny_one (s chars : ByteArray) (w : World) (h1 : chars.size = 1) (hascii : ∀ (j : Nat) b, chars.data.toList[j]? = some b → b.toNat < 128) :
    Calls Tryz.prog 66 #[.string s, .string chars] w fun e w' => e = .returned (.int .i64 (Lib.indexAny s.data.toList chars.data.toList)) ∧ w' = w := Any.strings_IndexAny_one Tryz.lays153 s chars w h1 hascii
open Go.RowKit Go.Lib in
theorem Tryz.strings_IndexAny_short (s chars : ByteArray) (w : World) (h2 : 2 ≤ chars.size) (h8 : s.size ≤ 8) (hascii : ∀ (j : Nat) b, s.data.toList[j]? = some b → b.toNat < 128) :
    Calls Tryz.prog 66 #[.string s, .string chars] w fun e w' => e = .returned (.int .i64 (Lib.indexAny s.data.toList chars.data.toList)) ∧ ∃ pos, w' = w.iter s pos := Any.strings_IndexAny_short Tryz.lays153 s chars w h2 h8 hascii
def Tryz.lays227_ren : Go.Shelf.Ren := ⟨fun | 227 => 45 | n => n, fun | 9 => 9 | 116 => 88 | 4 => 4 | 0 => 0 | 3 => 3 | 5 => 5 | n => n, fun | n => n⟩
theorem Tryz.lays227 : Go.Proofs.Lays.n227 Tryz.prog Tryz.lays227_ren := {
  mixed := by kernel_rfl
  f227 := Tryz.func45.trans (congrArg some (by kernel_rfl))
  t0 := Tryz.underlying0
  a0 := Tryz.isAgg0
  z0 := Tryz.sizeOf0
  v0 := Tryz.zeroValue0
  t3 := Tryz.underlying3
  a3 := Tryz.isAgg3
  z3 := Tryz.sizeOf3
  v3 := Tryz.zeroValue3
  t4 := Tryz.underlying4
  a4 := Tryz.isAgg4
  z4 := Tryz.sizeOf4
  v4 := Tryz.zeroValue4
  t5 := Tryz.underlying5
  a5 := Tryz.isAgg5
  z5 := Tryz.sizeOf5
  v5 := Tryz.zeroValue5
  t9 := Tryz.underlying9
  a9 := Tryz.isAgg9
  z9 := Tryz.sizeOf9
  v9 := Tryz.zeroValue9
  t116 := Tryz.underlying88
  a116 := Tryz.isAgg88
  z116 := Tryz.sizeOf88 }
open Go.RowKit Go.Lib in
theorem Tryz.strings_makeASCIISet (hv116 : ∀ w, (zeroValue 88).run Tryz.prog w = .ok (.agg (Array.replicate 256 (.bool false))) w) (chars : ByteArray) (w : World) (hs : chars.size < 4294967281) (hascii : ∀ (j : Nat) b, chars.data.toList[j]? = some b → b.toNat < 128) :
    Calls Tryz.prog 45 #[.string chars] w fun e w' => e = .returned (.tuple #[.agg (Lib.setCells chars.data.toList), .bool true]) ∧ w' = w.alloc (.cells (Lib.setCells chars.data.toList) 88) := Any.strings_makeASCIISet Tryz.lays227 hv116 (by kernel_rfl) chars w hs hascii
def Tryz.lays228_ren : Go.Shelf.Ren := ⟨fun | 228 => 85 | n => n, fun | 124 => 92 | 5 => 5 | 4 => 4 | 0 => 0 | 116 => 88 | n => n, fun | n => n⟩
theorem Tryz.lays228 : Go.Proofs.Lays.n228 Tryz.prog Tryz.lays228_ren := {
  mixed := by kernel_rfl
  f228 := Tryz.func85.trans (congrArg some (by kernel_rfl))
  t0 := Tryz.underlying0
  a0 := Tryz.isAgg0
  z0 := Tryz.sizeOf0
  v0 := Tryz.zeroValue0
  t4 := Tryz.underlying4
  a4 := Tryz.isAgg4
  z4 := Tryz.sizeOf4
  v4 := Tryz.zeroValue4
  t5 := Tryz.underlying5
  a5 := Tryz.isAgg5
  z5 := Tryz.sizeOf5
  v5 := Tryz.zeroValue5
  t116 := Tryz.underlying88
  a116 := Tryz.isAgg88
  z116 := Tryz.sizeOf88
  t124 := Tryz.underlying92
  a124 := Tryz.isAgg92
  z124 := Tryz.sizeOf92
  v124 := Tryz.zeroValue92 }
open Go.RowKit Go.Lib in
theorem Tryz.asciiSet_contains (b : Nat) (x : UInt8) (v : Bool) (w : World) (hc : w.cell? ⟨b, x.toNat, none⟩ = some (.bool v)) :
    Calls Tryz.prog 85 #[.pointer (some ⟨b, 0, none⟩), .int .u8 x.toNat] w fun e w' => e = .returned (.bool v) ∧ w' = w := Any.asciiSet_contains Tryz.lays228 b x v w hc
open Go.RowKit Go.Lib in
theorem Tryz.strings_IndexAny_long (hv116 : ∀ w, (zeroValue 88).run Tryz.prog w = .ok (.agg (Array.replicate 256 (.bool false))) w) (s chars : ByteArray) (w : World) (h2 : 2 ≤ chars.size) (h8 : 8 < s.size) (hs : s.size < 4294967281) (hcs : chars.size < 4294967281) (hascii : ∀ (j : Nat) b, chars.data.toList[j]? = some b → b.toNat < 128) :
    Calls Tryz.prog 66 #[.string s, .string chars] w fun e w' => e = .returned (.int .i64 (Lib.indexAny s.data.toList chars.data.toList)) ∧ w' = ((w.alloc (.cells (Lib.setCells chars.data.toList) 88)).alloc (.cells (Lib.setCells chars.data.toList) 88)) := Any.strings_IndexAny_long Tryz.lays153 hv116 (by kernel_rfl) s chars w h2 h8 hs hcs hascii
open Go.RowKit Go.Lib in
theorem Tryz.strings_IndexAny (hv116 : ∀ w, (zeroValue 88).run Tryz.prog w = .ok (.agg (Array.replicate 256 (.bool false))) w) (s chars : ByteArray) (w : World) (hs : s.size < 4294967281) (hcs : chars.size < 4294967281) (has : ∀ (j : Nat) b, s.data.toList[j]? = some b → b.toNat < 128) (hac : ∀ (j : Nat) b, chars.data.toList[j]? = some b → b.toNat < 128) :
    Calls Tryz.prog 66 #[.string s, .string chars] w fun e w' => e = .returned (.int .i64 (Lib.indexAny s.data.toList chars.data.toList)) ∧ Below w.heap.size w w' := Any.strings_IndexAny Tryz.lays153 hv116 (by kernel_rfl) s chars w hs hcs has hac
open Go.RowKit Go.Lib in
theorem Tryz.strings_IndexAny_laid (s chars : ByteArray) (w : World) (hs : s.size < 4294967281) (hcs : chars.size < 4294967281) (has : ∀ (j : Nat) b, s.data.toList[j]? = some b → b.toNat < 128) (hac : ∀ (j : Nat) b, chars.data.toList[j]? = some b → b.toNat < 128) :
    Calls Tryz.prog 66 #[.string s, .string chars] w fun e w' => e = .returned (.int .i64 (Lib.indexAny s.data.toList chars.data.toList)) ∧ Below w.heap.size w w' := Any.strings_IndexAny_laid Tryz.lays153 (by kernel_rfl) s chars w hs hcs has hac
def Tryz.lays119_ren : Go.Shelf.Ren := ⟨fun | 119 => 127 | n => n, fun | 21 => 21 | 4 => 4 | n => n, fun | n => n⟩
theorem Tryz.lays119 : Go.Proofs.Lays.n119 Tryz.prog Tryz.lays119_ren := {
  mixed := by kernel_rfl
  f119 := Tryz.func127.trans (congrArg some (by kernel_rfl))
  t4 := Tryz.underlying4
  a4 := Tryz.isAgg4
  z4 := Tryz.sizeOf4
  v4 := Tryz.zeroValue4
  t21 := Tryz.underlying21
  a21 := Tryz.isAgg21
  z21 := Tryz.sizeOf21
  v21 := Tryz.zeroValue21 }
theorem Tryz.utf8_ValidRune (r : Int) (w : World) :
    Calls Tryz.prog 127 #[.int .i32 r] w fun e w' => e = .returned (.bool (Lib.validRune r)) ∧ w' = w := Any.utf8_ValidRune Tryz.lays119 r w
def Tryz.lays226_ren : Go.Shelf.Ren := ⟨fun | 226 => 100 | n => n, fun | 3 => 3 | 4 => 4 | n => n, fun | n => n⟩
theorem Tryz.lays226 : Go.Proofs.Lays.n226 Tryz.prog Tryz.lays226_ren := {
  mixed := by kernel_rfl
  f226 := Tryz.func100.trans (congrArg some (by kernel_rfl))
  t3 := Tryz.underlying3
  a3 := Tryz.isAgg3
  z3 := Tryz.sizeOf3
  v3 := Tryz.zeroValue3
  t4 := Tryz.underlying4
  a4 := Tryz.isAgg4
  z4 := Tryz.sizeOf4
  v4 := Tryz.zeroValue4 }
open Go.RowKit Go.Lib in
theorem Tryz.strings_shouldUseASCIISet (n : Int) (w : World) :
    Calls Tryz.prog 100 #[.int .i64 n] w fun e w' => e = .returned (.bool (decide (8 < n))) ∧ w' = w := Any.strings_shouldUseASCIISet Tryz.lays226 n w
def Tryz.lays152_ren : Go.Shelf.Ren := ⟨fun | 152 => 99 | 137 => 67 | 119 => 127 | 224 => 114 | 225 => 113 | 217 => 101 | 266 => 128 | n => n, fun | 9 => 9 | 21 => 21 | 3 => 3 | 4 => 4 | 5 => 5 | 0 => 0 | 46 => 46 | n => n, fun | n => n⟩
theorem Tryz.lays152 : Go.Proofs.Lays.n152 Tryz.prog Tryz.lays152_ren := {
  mixed := by kernel_rfl
  f119 := Tryz.func127.trans (congrArg some (by kernel_rfl))
  f137 := Tryz.func67.trans (congrArg some (by kernel_rfl))
  f152 := Tryz.func99.trans (congrArg some (by kernel_rfl))
  f217 := Tryz.func101.trans (congrArg some (by kernel_rfl))
  f224 := Tryz.func114.trans (congrArg some (by kernel_rfl))
  f225 := Tryz.func113.trans (congrArg some (by kernel_rfl))
  f266 := Tryz.func128.trans (congrArg some (by kernel_rfl))
  t0 := Tryz.underlying0
  a0 := Tryz.isAgg0
  z0 := Tryz.sizeOf0
  v0 := Tryz.zeroValue0
  t3 := Tryz.underlying3
  a3 := Tryz.isAgg3
  z3 := Tryz.sizeOf3
  v3 := Tryz.zeroValue3
  t4 := Tryz.underlying4
  a4 := Tryz.isAgg4
  z4 := Tryz.sizeOf4
  v4 := Tryz.zeroValue4
  t5 := Tryz.underlying5
  a5 := Tryz.isAgg5
  z5 := Tryz.sizeOf5
  v5 := Tryz.zeroValue5
  t9 := Tryz.underlying9
  a9 := Tryz.isAgg9
  z9 := Tryz.sizeOf9
  v9 := Tryz.zeroValue9
  t21 := Tryz.underlying21
  a21 := Tryz.isAgg21
  z21 := Tryz.sizeOf21
  v21 := Tryz.zeroValue21
  t46 := Tryz.underlying46
  a46 := Tryz.isAgg46
  z46 := Tryz.sizeOf46
  v46 := Tryz.zeroValue46 }
open Go.RowKit Go.Lib in
theorem Tryz.strings_IndexRune_ascii (s : ByteArray) (r : Int) (w : World) (h0 : 0 ≤ r) (h1 : r < 128) :
    Calls Tryz.prog 99 #[.string s, .int .i32 r] w fun e w' => e = .returned (.int .i64 (Lib.indexByte s.data.toList r.toNat.toUInt8)) ∧ w' = w := Any.strings_IndexRune_ascii Tryz.lays152 s r w h0 h1
shelf_lay_g Lays8.n4 Nm8 4 at Tryz 88 as Tryz.grow4
end Go.Proofs
