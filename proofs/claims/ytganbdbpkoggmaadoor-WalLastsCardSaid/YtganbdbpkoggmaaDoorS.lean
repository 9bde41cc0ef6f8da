/- Contracts of the library of Go at this program, by program. No condition. -/
import Derived.Test.YtganbdbpkoggmaaDoorR
import Derived.Shelf.Strings.Builder1
import Derived.Shelf.Strings.Builder2
import Derived.Shelf.Small.Strs
import Derived.Shelf.Small.Wraps
import Derived.Shelf.Strings.BuilderF
import Derived.Shelf.Strconv.Itoa0
import Derived.Shelf.Strconv.Itoa1
import Derived.Shelf.LaysM
import Derived.Shelf.Strconv.Itoa2
import Derived.Shelf.Strconv.Itoa3
import Derived.Shelf.Strconv.Itoa4
import Derived.Shelf.Strings.Prefix
import Derived.Shelf.Bits.Mul64
import Derived.Shelf.Strings.Repeat
import Derived.Test.YtganbdbpkoggmaaDoorProg
set_option linter.unusedVariables false
set_option linter.unusedSimpArgs false
namespace Go.Proofs
open Go.Shelf
def Tryd.lays103_ren : Go.Shelf.Ren := ⟨fun | 103 => 55 | 210 => 78 | 206 => 85 | n => n, fun | 9 => 9 | 4 => 4 | 24 => 109 | 3 => 3 | n => n, fun | n => n⟩
theorem Tryd.lays103 : Go.Proofs.Lays.n103 Tryd.prog Tryd.lays103_ren := {
 mixed := by kernel_rfl
 f103 := Tryd.func55.trans (congrArg some (by kernel_rfl))
 f206 := Tryd.func85.trans (congrArg some (by kernel_rfl))
 f210 := Tryd.func78.trans (congrArg some (by kernel_rfl))
 t3 := Tryd.underlying3
 a3 := Tryd.isAgg3
 z3 := Tryd.sizeOf3
 v3 := Tryd.zeroValue3
 t4 := Tryd.underlying4
 a4 := Tryd.isAgg4
 z4 := Tryd.sizeOf4
 v4 := Tryd.zeroValue4
 t9 := Tryd.underlying9
 a9 := Tryd.isAgg9
 z9 := Tryd.sizeOf9
 v9 := Tryd.zeroValue9
 t24 := Tryd.underlying109
 a24 := Tryd.isAgg109
 z24 := Tryd.sizeOf109
 v24 := Tryd.zeroValue109 }
open Go.RowKit in
theorem Tryd.strings_CutPrefix (s p : ByteArray) (w : World) :
  Calls Tryd.prog 55 #[.string s, .string p] w fun e w' => e = .returned (.tuple #[.string ⟨(Lib.trimPrefix s.data.toList p.data.toList).toArray⟩, .bool (Lib.hasPrefix s.data.toList p.data.toList)])/\w' = w := Any.strings_CutPrefix Tryd.lays103 s p w
def Tryd.laysM173_ren : Go.Shelf.Ren := ⟨fun | 173 => 36 | 246 => 56 | 283 => 79 | 284 => 80 | 285 => 81 | 286 => 82 | 129 => 94 | 317 => 93 | 318 => 95 | 319 => 96 | 320 => 97 | 337 => 103 | 338 => 104 | n => n, fun | 2 => 2 | 3 => 3 | 9 => 9 | 4 => 4 | 171 => 147 | 0 => 0 | 53 => 133 | 37 => 42 | 5 => 5 | 173 => 150 | 212 => 164 | 51 => 134 | 20 => 20 | 213 => 165 | 46 => 111 | 232 => 175 | 233 => 176 | n => n, fun | 17 => 0 | 18 => 2 | 19 => 3 | n => n⟩
theorem Tryd.laysM173 : Go.Proofs.LaysM.n173 Tryd.prog Tryd.laysM173_ren := {
 mixed := by kernel_rfl
 f129 := Tryd.func94.trans (congrArg some (by kernel_rfl))
 f173 := Tryd.func36.trans (congrArg some (by kernel_rfl))
 f246 := Tryd.func56.trans (congrArg some (by kernel_rfl))
 f283 := Tryd.func79.trans (congrArg some (by kernel_rfl))
 f284 := Tryd.func80.trans (congrArg some (by kernel_rfl))
 f285 := Tryd.func81.trans (congrArg some (by kernel_rfl))
 f286 := Tryd.func82.trans (congrArg some (by kernel_rfl))
 f317 := Tryd.func93.trans (congrArg some (by kernel_rfl))
 f318 := Tryd.func95.trans (congrArg some (by kernel_rfl))
 f319 := Tryd.func96.trans (congrArg some (by kernel_rfl))
 f320 := Tryd.func97.trans (congrArg some (by kernel_rfl))
 f337 := Tryd.func103.trans (congrArg some (by kernel_rfl))
 f338 := Tryd.func104.trans (congrArg some (by kernel_rfl))
 t0 := Tryd.underlying0
 a0 := Tryd.isAgg0
 z0 := Tryd.sizeOf0
 v0 := Tryd.zeroValue0
 t2 := Tryd.underlying2
 a2 := Tryd.isAgg2
 z2 := Tryd.sizeOf2
 v2 := Tryd.zeroValue2
 t3 := Tryd.underlying3
 a3 := Tryd.isAgg3
 z3 := Tryd.sizeOf3
 v3 := Tryd.zeroValue3
 t4 := Tryd.underlying4
 a4 := Tryd.isAgg4
 z4 := Tryd.sizeOf4
 v4 := Tryd.zeroValue4
 t5 := Tryd.underlying5
 a5 := Tryd.isAgg5
 z5 := Tryd.sizeOf5
 v5 := Tryd.zeroValue5
 t9 := Tryd.underlying9
 a9 := Tryd.isAgg9
 z9 := Tryd.sizeOf9
 v9 := Tryd.zeroValue9
 t20 := Tryd.underlying20
 a20 := Tryd.isAgg20
 z20 := Tryd.sizeOf20
 v20 := Tryd.zeroValue20
 t37 := Tryd.underlying42
 a37 := Tryd.isAgg42
 z37 := Tryd.sizeOf42
 v37 := Tryd.zeroValue42
 t46 := Tryd.underlying111
 a46 := Tryd.isAgg111
 z46 := Tryd.sizeOf111
 v46 := Tryd.zeroValue111
 t51 := Tryd.underlying134
 a51 := Tryd.isAgg134
 z51 := Tryd.sizeOf134
 v51 := Tryd.zeroValue134
 t53 := Tryd.underlying133
 a53 := Tryd.isAgg133
 z53 := Tryd.sizeOf133
 v53 := Tryd.zeroValue133
 t171 := Tryd.underlying147
 a171 := Tryd.isAgg147
 z171 := Tryd.sizeOf147
 v171 := Tryd.zeroValue147
 t173 := Tryd.underlying150
 a173 := Tryd.isAgg150
 z173 := Tryd.sizeOf150
 v173 := Tryd.zeroValue150
 t212 := Tryd.underlying164
 a212 := Tryd.isAgg164
 z212 := Tryd.sizeOf164
 v212 := Tryd.zeroValue164
 t213 := Tryd.underlying165
 a213 := Tryd.isAgg165
 z213 := Tryd.sizeOf165
 t232 := Tryd.underlying175
 a232 := Tryd.isAgg175
 z232 := Tryd.sizeOf175
 v232 := Tryd.zeroValue175
 t233 := Tryd.underlying176
 a233 := Tryd.isAgg176
 z233 := Tryd.sizeOf176
 v233 := Tryd.zeroValue176
 g17 := by kernel_rfl
 g18 := by kernel_rfl
 g19 := by kernel_rfl
 i0 := by kernel_rfl
 i2 := by kernel_rfl
 i3 := by kernel_rfl
 i4 := by kernel_rfl
 i5 := by kernel_rfl
 i9 := by kernel_rfl
 i20 := by kernel_rfl
 i37 := by kernel_rfl
 i46 := by kernel_rfl
 i51 := by kernel_rfl
 i53 := by kernel_rfl
 i171 := by kernel_rfl
 i173 := by kernel_rfl
 i212 := by kernel_rfl
 i232 := by kernel_rfl
 i233 := by kernel_rfl
 m17 := by kernel_rfl
 m18 := by kernel_rfl
 m19 := by kernel_rfl }
open Go.RowKit Go.Sort Go.Lib in
theorem Tryd.strconv_FormatInt_10 (n : Int) (h0 : -9223372036854775808<=n) (h1 : n<=9223372036854775807) (w : World) (htab : Lib.TabIs Tryd.prog w "internal/strconv.uint64pow10" .u64 Lib.pow10Tab) :
  Calls Tryd.prog 36 #[.int .i64 n, .int .i64 10] w fun e w' => e = .returned (.string ⟨(Lib.itoa n).toArray⟩)/\∃ k os, w' = grow (w.drewN k) os := Any.strconv_FormatInt_10 Tryd.laysM173 n h0 h1 w htab
def Tryd.lays105_ren : Go.Shelf.Ren := ⟨fun | 105 => 37 | 212 => 57 | 99 => 58 | 165 => 59 | 166 => 60 | 170 => 61 | 169 => 62 | 263 => 83 | 264 => 84 | 206 => 85 | 240 => 86 | 241 => 87 | 276 => 98 | 277 => 99 | n => n, fun | 9 => 9 | 3 => 3 | 4 => 4 | 20 => 20 | 0 => 0 | 46 => 111 | 109 => 112 | 5 => 5 | 72 => 117 | 76 => 121 | 51 => 134 | 146 => 152 | 53 => 133 | 148 => 154 | 70 => 115 | 37 => 42 | 75 => 120 | 127 => 156 | 164 => 168 | 80 => 124 | n => n, fun | n => n⟩
theorem Tryd.lays105 : Go.Proofs.Lays.n105 Tryd.prog Tryd.lays105_ren := {
 mixed := by kernel_rfl
 f99 := Tryd.func58.trans (congrArg some (by kernel_rfl))
 f105 := Tryd.func37.trans (congrArg some (by kernel_rfl))
 f165 := Tryd.func59.trans (congrArg some (by kernel_rfl))
 f166 := Tryd.func60.trans (congrArg some (by kernel_rfl))
 f169 := Tryd.func62.trans (congrArg some (by kernel_rfl))
 f170 := Tryd.func61.trans (congrArg some (by kernel_rfl))
 f206 := Tryd.func85.trans (congrArg some (by kernel_rfl))
 f212 := Tryd.func57.trans (congrArg some (by kernel_rfl))
 f240 := Tryd.func86.trans (congrArg some (by kernel_rfl))
 f241 := Tryd.func87.trans (congrArg some (by kernel_rfl))
 f263 := Tryd.func83.trans (congrArg some (by kernel_rfl))
 f264 := Tryd.func84.trans (congrArg some (by kernel_rfl))
 f276 := Tryd.func98.trans (congrArg some (by kernel_rfl))
 f277 := Tryd.func99.trans (congrArg some (by kernel_rfl))
 t0 := Tryd.underlying0
 a0 := Tryd.isAgg0
 z0 := Tryd.sizeOf0
 v0 := Tryd.zeroValue0
 t3 := Tryd.underlying3
 a3 := Tryd.isAgg3
 z3 := Tryd.sizeOf3
 v3 := Tryd.zeroValue3
 t4 := Tryd.underlying4
 a4 := Tryd.isAgg4
 z4 := Tryd.sizeOf4
 v4 := Tryd.zeroValue4
 t5 := Tryd.underlying5
 a5 := Tryd.isAgg5
 z5 := Tryd.sizeOf5
 v5 := Tryd.zeroValue5
 t9 := Tryd.underlying9
 a9 := Tryd.isAgg9
 z9 := Tryd.sizeOf9
 v9 := Tryd.zeroValue9
 t20 := Tryd.underlying20
 a20 := Tryd.isAgg20
 z20 := Tryd.sizeOf20
 v20 := Tryd.zeroValue20
 t37 := Tryd.underlying42
 a37 := Tryd.isAgg42
 z37 := Tryd.sizeOf42
 v37 := Tryd.zeroValue42
 t46 := Tryd.underlying111
 a46 := Tryd.isAgg111
 z46 := Tryd.sizeOf111
 v46 := Tryd.zeroValue111
 t51 := Tryd.underlying134
 a51 := Tryd.isAgg134
 z51 := Tryd.sizeOf134
 v51 := Tryd.zeroValue134
 t53 := Tryd.underlying133
 a53 := Tryd.isAgg133
 z53 := Tryd.sizeOf133
 v53 := Tryd.zeroValue133
 t70 := Tryd.underlying115
 a70 := Tryd.isAgg115
 z70 := Tryd.sizeOf115
 v70 := Tryd.zeroValue115
 t72 := Tryd.underlying117
 a72 := Tryd.isAgg117
 z72 := Tryd.sizeOf117
 v72 := Tryd.zeroValue117
 t75 := Tryd.underlying120
 a75 := Tryd.isAgg120
 z75 := Tryd.sizeOf120
 v75 := Tryd.zeroValue120
 t76 := Tryd.underlying121
 a76 := Tryd.isAgg121
 z76 := Tryd.sizeOf121
 v76 := Tryd.zeroValue121
 t109 := Tryd.underlying112
 a109 := Tryd.isAgg112
 z109 := Tryd.sizeOf112
 v109 := Tryd.zeroValue112
 t127 := Tryd.underlying156
 a127 := Tryd.isAgg156
 z127 := Tryd.sizeOf156
 v127 := Tryd.zeroValue156
 t146 := Tryd.underlying152
 a146 := Tryd.isAgg152
 z146 := Tryd.sizeOf152
 v146 := Tryd.zeroValue152
 t148 := Tryd.underlying154
 a148 := Tryd.isAgg154
 z148 := Tryd.sizeOf154
 v148 := Tryd.zeroValue154
 t164 := Tryd.underlying168
 a164 := Tryd.isAgg168
 z164 := Tryd.sizeOf168
 v164 := Tryd.zeroValue168 }
theorem Tryd.Builder_Extra_105 : Builder.Extra Tryd.prog Tryd.lays105_ren := {
 sizeBuilder := by kernel_rfl
 liesBuilder := by kernel_rfl
 t5 := Tryd.underlying5
 a5 := Tryd.isAgg5
 z5 := Tryd.sizeOf5
 v5 := Tryd.zeroValue5
 infoByte := by kernel_rfl
 cellsByte := by kernel_rfl
 sizeByte := by kernel_rfl
 neB5 := by decide }
open Go.RowKit Go.Lib in
theorem Tryd.strings_Repeat_main (s : ByteArray) (c : Nat) (w : World) (hc2 : 2<=c) (hc : c<=9223372036854775807) (hlen : s.size * c<=140737488355328) (h0 : 0 < s.size) :
  Calls Tryd.prog 37 #[.string s, .int .i64 c] w fun e w' => e = .returned (.string ⟨(Lib.repeatL s.data.toList c).toArray⟩)/\Below w.heap.size w w' := Any.strings_Repeat_main Tryd.lays105 Tryd.Builder_Extra_105 s c w hc2 hc hlen h0
open Go.RowKit Go.Lib in
theorem Tryd.strings_Repeat_zero (s : ByteArray) (w : World) :
  Calls Tryd.prog 37 #[.string s, .int .i64 0] w fun e w' => e = .returned (.string ⟨#[]⟩)/\w' = w := Any.strings_Repeat_zero Tryd.lays105 s w
open Go.RowKit Go.Lib in
theorem Tryd.strings_Repeat_one (s : ByteArray) (w : World) :
  Calls Tryd.prog 37 #[.string s, .int .i64 1] w fun e w' => e = .returned (.string s)/\w' = w := Any.strings_Repeat_one Tryd.lays105 s w
open Go.RowKit Go.Lib in
theorem Tryd.strings_Repeat_empty (s : ByteArray) (c : Nat) (w : World) (hc2 : 2<=c) (hc : c<=9223372036854775807) (h0 : s.size = 0) :
  Calls Tryd.prog 37 #[.string s, .int .i64 c] w fun e w' => e = .returned (.string ⟨#[]⟩)/\w' = w := Any.strings_Repeat_empty Tryd.lays105 s c w hc2 hc h0
end Go.Proofs
