import Derived.Shelf.Strings.Builder1
import Derived.Shelf.Strings.Builder2
import Derived.Shelf.Strings.OnBuilder
import Derived.Shelf.Small.Wraps
import Derived.Shelf.Strconv.Atoi
import Derived.Shelf.Strconv.Itoa0
import Derived.Shelf.Strconv.Itoa1
import Derived.Shelf.LaysM
import Derived.Shelf.Strconv.Itoa2
import Derived.Shelf.Strconv.Itoa3
import Derived.Shelf.Strconv.AtoiErrFast
import Derived.Shelf.Strconv.ParseIntEmpty
import Derived.Shelf.Strconv.AtoiFail
import Derived.Shelf.Strconv.Clone
import Derived.Shelf.Strconv.SyntaxError
import Derived.Shelf.LaysC
import Derived.Shelf.Strconv.ToError
import Derived.Shelf.Strconv.Lower
import Derived.Shelf.Strconv.ParseUint10
import Derived.Shelf.Strconv.ParseUint10Empty
import Derived.Shelf.Strconv.ParseUint10Any
import Derived.Shelf.Strconv.ParseInt10
import Derived.Shelf.Strconv.AtoiLong
import Derived.Shelf.Strconv.AtoiInnerAll
import Derived.Shelf.Strconv.RangeError
import Derived.Shelf.Strconv.ToErrorRange
import Derived.Shelf.Strconv.AtoiAll
import Derived.Shelf.Strconv.ErrVarAll
import Derived.Shelf.Strings.Search1
import Derived.Shelf.Strings.Search2
import Derived.Shelf.Strings.Search3
import Derived.Shelf.Strings.Cut
import Derived.Shelf.Strings.Count
import Derived.Shelf.Strings.Shaped
import Derived.Shelf.Strings.Prefix
import Derived.Shelf.Strings.Split
import Derived.Shelf.Strings.SplitShaped
import Derived.Shelf.Unicode.DecodeSlow
import Derived.Test.YtbfbppjccbppiaaGreatDoorProg
namespace Go.Proofs
open Go.Shelf
def Tryz.lays156_ren : Go.Shelf.Ren := ⟨fun | 156 => 53 | 165 => 93 | 166 => 94 | 169 => 95 | 240 => 126 | 241 => 127 | 276 => 153 | 277 => 154 | n => n, fun | 31 => 45 | 9 => 9 | 3 => 3 | 4 => 4 | 0 => 0 | 20 => 20 | 72 => 144 | 76 => 148 | 70 => 142 | 37 => 41 | 75 => 147 | 127 => 172 | 164 => 187 | 5 => 5 | 80 => 150 | n => n, fun | n => n⟩
theorem Tryz.lays156 : Go.Proofs.Lays.n156 Tryz.prog Tryz.lays156_ren := {
 mixed := by kernel_rfl
 f156 := Tryz.func53.trans (congrArg some (by kernel_rfl))
 f165 := Tryz.func93.trans (congrArg some (by kernel_rfl))
 f166 := Tryz.func94.trans (congrArg some (by kernel_rfl))
 f169 := Tryz.func95.trans (congrArg some (by kernel_rfl))
 f240 := Tryz.func126.trans (congrArg some (by kernel_rfl))
 f241 := Tryz.func127.trans (congrArg some (by kernel_rfl))
 f276 := Tryz.func153.trans (congrArg some (by kernel_rfl))
 f277 := Tryz.func154.trans (congrArg some (by kernel_rfl))
 t0 := Tryz.underlying0
 a0 := Tryz.isAgg0
 z0 := Tryz.sizeOf0
 v0 := Tryz.zeroValue0
 t3 := Tryz.underlying3
 a3 := Tryz.isAgg3
 z3 := Tryz.sizeOf3
 v3 := Tryz.zeroValue3
 t4 := Tryz.underlying4
 a4 := Tryz.isAgg4
 z4 := Tryz.sizeOf4
 v4 := Tryz.zeroValue4
 t9 := Tryz.underlying9
 a9 := Tryz.isAgg9
 z9 := Tryz.sizeOf9
 v9 := Tryz.zeroValue9
 t20 := Tryz.underlying20
 a20 := Tryz.isAgg20
 z20 := Tryz.sizeOf20
 v20 := Tryz.zeroValue20
 t31 := Tryz.underlying45
 a31 := Tryz.isAgg45
 z31 := Tryz.sizeOf45
 v31 := Tryz.zeroValue45
 t37 := Tryz.underlying41
 a37 := Tryz.isAgg41
 z37 := Tryz.sizeOf41
 v37 := Tryz.zeroValue41
 t70 := Tryz.underlying142
 a70 := Tryz.isAgg142
 z70 := Tryz.sizeOf142
 v70 := Tryz.zeroValue142
 t72 := Tryz.underlying144
 a72 := Tryz.isAgg144
 z72 := Tryz.sizeOf144
 v72 := Tryz.zeroValue144
 t75 := Tryz.underlying147
 a75 := Tryz.isAgg147
 z75 := Tryz.sizeOf147
 v75 := Tryz.zeroValue147
 t76 := Tryz.underlying148
 a76 := Tryz.isAgg148
 z76 := Tryz.sizeOf148
 v76 := Tryz.zeroValue148
 t127 := Tryz.underlying172
 a127 := Tryz.isAgg172
 z127 := Tryz.sizeOf172
 v127 := Tryz.zeroValue172
 t164 := Tryz.underlying187
 a164 := Tryz.isAgg187
 z164 := Tryz.sizeOf187
 v164 := Tryz.zeroValue187 }
theorem Tryz.Builder_Extra_156 : Builder.Extra Tryz.prog Tryz.lays156_ren := {
 sizeBuilder := by kernel_rfl
 liesBuilder := by kernel_rfl
 t5 := Tryz.underlying5
 a5 := Tryz.isAgg5
 z5 := Tryz.sizeOf5
 v5 := Tryz.zeroValue5
 infoByte := by kernel_rfl
 cellsByte := by kernel_rfl
 sizeByte := by kernel_rfl
 neB5 := by decide }
open Go.RowKit in
theorem Tryz.strings_Join (bk o c : Nat) (xs : List ByteArray) (sep : ByteArray) (w : World) (hcells : ∀ (j : Nat) x, xs[j]? = some x → w.cell? ⟨bk, o + j, none⟩ = some (.string x)) (hbk : bk < w.heap.size) (hN : xs.length ≤ 140737488355328) (hcap : xs.length ≤ c) (hlen : (Lib.join (xs.map (·.data.toList)) sep.data.toList).length ≤ 140737488355328) :
  Calls Tryz.prog 53 #[.slice (some ⟨bk, o, none⟩) xs.length c, .string sep] w fun e w' => e = .returned (.string ⟨(Lib.join (xs.map (·.data.toList)) sep.data.toList).toArray⟩) ∧ Below w.heap.size w w' := Any.strings_Join Tryz.lays156 Tryz.Builder_Extra_156 bk o c xs sep w hcells hbk hN hcap hlen
def Tryz.lays103_ren : Go.Shelf.Ren := ⟨fun | 103 => 78 | 210 => 112 | 206 => 143 | n => n, fun | 9 => 9 | 4 => 4 | 24 => 130 | 3 => 3 | n => n, fun | n => n⟩
theorem Tryz.lays103 : Go.Proofs.Lays.n103 Tryz.prog Tryz.lays103_ren := {
 mixed := by kernel_rfl
 f103 := Tryz.func78.trans (congrArg some (by kernel_rfl))
 f206 := Tryz.func143.trans (congrArg some (by kernel_rfl))
 f210 := Tryz.func112.trans (congrArg some (by kernel_rfl))
 t3 := Tryz.underlying3
 a3 := Tryz.isAgg3
 z3 := Tryz.sizeOf3
 v3 := Tryz.zeroValue3
 t4 := Tryz.underlying4
 a4 := Tryz.isAgg4
 z4 := Tryz.sizeOf4
 v4 := Tryz.zeroValue4
 t9 := Tryz.underlying9
 a9 := Tryz.isAgg9
 z9 := Tryz.sizeOf9
 v9 := Tryz.zeroValue9
 t24 := Tryz.underlying130
 a24 := Tryz.isAgg130
 z24 := Tryz.sizeOf130
 v24 := Tryz.zeroValue130 }
open Go.RowKit in
theorem Tryz.strings_CutPrefix (s p : ByteArray) (w : World) :
  Calls Tryz.prog 78 #[.string s, .string p] w fun e w' => e = .returned (.tuple #[.string ⟨(Lib.trimPrefix s.data.toList p.data.toList).toArray⟩, .bool (Lib.hasPrefix s.data.toList p.data.toList)]) ∧ w' = w := Any.strings_CutPrefix Tryz.lays103 s p w
def Tryz.lays104_ren : Go.Shelf.Ren := ⟨fun | 104 => 79 | 211 => 113 | 207 => 144 | n => n, fun | 9 => 9 | 4 => 4 | 24 => 130 | 3 => 3 | n => n, fun | n => n⟩
theorem Tryz.lays104 : Go.Proofs.Lays.n104 Tryz.prog Tryz.lays104_ren := {
 mixed := by kernel_rfl
 f104 := Tryz.func79.trans (congrArg some (by kernel_rfl))
 f207 := Tryz.func144.trans (congrArg some (by kernel_rfl))
 f211 := Tryz.func113.trans (congrArg some (by kernel_rfl))
 t3 := Tryz.underlying3
 a3 := Tryz.isAgg3
 z3 := Tryz.sizeOf3
 v3 := Tryz.zeroValue3
 t4 := Tryz.underlying4
 a4 := Tryz.isAgg4
 z4 := Tryz.sizeOf4
 v4 := Tryz.zeroValue4
 t9 := Tryz.underlying9
 a9 := Tryz.isAgg9
 z9 := Tryz.sizeOf9
 v9 := Tryz.zeroValue9
 t24 := Tryz.underlying130
 a24 := Tryz.isAgg130
 z24 := Tryz.sizeOf130
 v24 := Tryz.zeroValue130 }
open Go.RowKit in
theorem Tryz.strings_CutSuffix (s p : ByteArray) (w : World) (hs : s.size ≤ 9223372036854775807) :
  Calls Tryz.prog 79 #[.string s, .string p] w fun e w' => e = .returned (.tuple #[.string ⟨(Lib.trimSuffix s.data.toList p.data.toList).toArray⟩, .bool (Lib.hasSuffix s.data.toList p.data.toList)]) ∧ w' = w := Any.strings_CutSuffix Tryz.lays104 s p w hs
def Tryz.laysM171_ren : Go.Shelf.Ren := ⟨fun | 171 => 73 | 243 => 109 | 246 => 138 | 283 => 164 | 284 => 165 | 285 => 166 | 286 => 167 | 129 => 183 | 317 => 182 | 318 => 184 | 319 => 185 | 320 => 186 | 337 => 197 | 338 => 198 | n => n, fun | 3 => 3 | 9 => 9 | 2 => 2 | 4 => 4 | 171 => 201 | 0 => 0 | 53 => 176 | 37 => 41 | 5 => 5 | 173 => 204 | 212 => 221 | 51 => 206 | 20 => 20 | 213 => 222 | 46 => 56 | 232 => 241 | 233 => 242 | n => n, fun | 17 => 1 | 18 => 4 | 19 => 5 | n => n⟩
theorem Tryz.laysM171 : Go.Proofs.LaysM.n171 Tryz.prog Tryz.laysM171_ren := {
 mixed := by kernel_rfl
 f129 := Tryz.func183.trans (congrArg some (by kernel_rfl))
 f171 := Tryz.func73.trans (congrArg some (by kernel_rfl))
 f243 := Tryz.func109.trans (congrArg some (by kernel_rfl))
 f246 := Tryz.func138.trans (congrArg some (by kernel_rfl))
 f283 := Tryz.func164.trans (congrArg some (by kernel_rfl))
 f284 := Tryz.func165.trans (congrArg some (by kernel_rfl))
 f285 := Tryz.func166.trans (congrArg some (by kernel_rfl))
 f286 := Tryz.func167.trans (congrArg some (by kernel_rfl))
 f317 := Tryz.func182.trans (congrArg some (by kernel_rfl))
 f318 := Tryz.func184.trans (congrArg some (by kernel_rfl))
 f319 := Tryz.func185.trans (congrArg some (by kernel_rfl))
 f320 := Tryz.func186.trans (congrArg some (by kernel_rfl))
 f337 := Tryz.func197.trans (congrArg some (by kernel_rfl))
 f338 := Tryz.func198.trans (congrArg some (by kernel_rfl))
 t0 := Tryz.underlying0
 a0 := Tryz.isAgg0
 z0 := Tryz.sizeOf0
 v0 := Tryz.zeroValue0
 t2 := Tryz.underlying2
 a2 := Tryz.isAgg2
 z2 := Tryz.sizeOf2
 v2 := Tryz.zeroValue2
 t3 := Tryz.underlying3
 a3 := Tryz.isAgg3
 z3 := Tryz.sizeOf3
 v3 := Tryz.zeroValue3
 t4 := Tryz.underlying4
 a4 := Tryz.isAgg4
 z4 := Tryz.sizeOf4
 v4 := Tryz.zeroValue4
 t5 := Tryz.underlying5
 a5 := Tryz.isAgg5
 z5 := Tryz.sizeOf5
 v5 := Tryz.zeroValue5
 t9 := Tryz.underlying9
 a9 := Tryz.isAgg9
 z9 := Tryz.sizeOf9
 v9 := Tryz.zeroValue9
 t20 := Tryz.underlying20
 a20 := Tryz.isAgg20
 z20 := Tryz.sizeOf20
 v20 := Tryz.zeroValue20
 t37 := Tryz.underlying41
 a37 := Tryz.isAgg41
 z37 := Tryz.sizeOf41
 v37 := Tryz.zeroValue41
 t46 := Tryz.underlying56
 a46 := Tryz.isAgg56
 z46 := Tryz.sizeOf56
 v46 := Tryz.zeroValue56
 t51 := Tryz.underlying206
 a51 := Tryz.isAgg206
 z51 := Tryz.sizeOf206
 v51 := Tryz.zeroValue206
 t53 := Tryz.underlying176
 a53 := Tryz.isAgg176
 z53 := Tryz.sizeOf176
 v53 := Tryz.zeroValue176
 t171 := Tryz.underlying201
 a171 := Tryz.isAgg201
 z171 := Tryz.sizeOf201
 v171 := Tryz.zeroValue201
 t173 := Tryz.underlying204
 a173 := Tryz.isAgg204
 z173 := Tryz.sizeOf204
 v173 := Tryz.zeroValue204
 t212 := Tryz.underlying221
 a212 := Tryz.isAgg221
 z212 := Tryz.sizeOf221
 v212 := Tryz.zeroValue221
 t213 := Tryz.underlying222
 a213 := Tryz.isAgg222
 z213 := Tryz.sizeOf222
 t232 := Tryz.underlying241
 a232 := Tryz.isAgg241
 z232 := Tryz.sizeOf241
 v232 := Tryz.zeroValue241
 t233 := Tryz.underlying242
 a233 := Tryz.isAgg242
 z233 := Tryz.sizeOf242
 v233 := Tryz.zeroValue242
 g17 := by kernel_rfl
 g18 := by kernel_rfl
 g19 := by kernel_rfl
 i0 := by kernel_rfl
 i2 := by kernel_rfl
 i3 := by kernel_rfl
 i4 := by kernel_rfl
 i5 := by kernel_rfl
 i9 := by kernel_rfl
 i20 := by kernel_rfl
 i37 := by kernel_rfl
 i46 := by kernel_rfl
 i51 := by kernel_rfl
 i53 := by kernel_rfl
 i171 := by kernel_rfl
 i173 := by kernel_rfl
 i212 := by kernel_rfl
 i232 := by kernel_rfl
 i233 := by kernel_rfl
 m17 := by kernel_rfl
 m18 := by kernel_rfl
 m19 := by kernel_rfl }
open Go.RowKit Go.Sort Go.Lib in
theorem Tryz.strconv_Itoa (n : Int) (h0 : -9223372036854775808 ≤ n) (h1 : n ≤ 9223372036854775807) (w : World) (htab : Lib.TabIs Tryz.prog w "internal/strconv.uint64pow10" .u64 Lib.pow10Tab) :
  Calls Tryz.prog 73 #[.int .i64 n] w fun e w' => e = .returned (.string ⟨(Lib.itoa n).toArray⟩) ∧ ∃ k os, w' = grow (w.drewN k) os := Any.strconv_Itoa Tryz.laysM171 n h0 h1 w htab
def Tryz.lays171_ren : Go.Shelf.Ren := ⟨fun | 171 => 73 | 243 => 109 | 246 => 138 | 283 => 164 | 284 => 165 | 285 => 166 | 286 => 167 | 129 => 183 | 317 => 182 | 318 => 184 | 319 => 185 | 320 => 186 | 337 => 197 | 338 => 198 | n => n, fun | 3 => 3 | 9 => 9 | 2 => 2 | 4 => 4 | 171 => 201 | 0 => 0 | 53 => 176 | 37 => 41 | 5 => 5 | 173 => 204 | 212 => 221 | 51 => 206 | 20 => 20 | 213 => 222 | 46 => 56 | 232 => 241 | 233 => 242 | n => n, fun | 17 => 1 | 18 => 4 | 19 => 5 | n => n⟩
theorem Tryz.lays171 : Go.Proofs.Lays.n171 Tryz.prog Tryz.lays171_ren := {
 mixed := by kernel_rfl
 f129 := Tryz.func183.trans (congrArg some (by kernel_rfl))
 f171 := Tryz.func73.trans (congrArg some (by kernel_rfl))
 f243 := Tryz.func109.trans (congrArg some (by kernel_rfl))
 f246 := Tryz.func138.trans (congrArg some (by kernel_rfl))
 f283 := Tryz.func164.trans (congrArg some (by kernel_rfl))
 f284 := Tryz.func165.trans (congrArg some (by kernel_rfl))
 f285 := Tryz.func166.trans (congrArg some (by kernel_rfl))
 f286 := Tryz.func167.trans (congrArg some (by kernel_rfl))
 f317 := Tryz.func182.trans (congrArg some (by kernel_rfl))
 f318 := Tryz.func184.trans (congrArg some (by kernel_rfl))
 f319 := Tryz.func185.trans (congrArg some (by kernel_rfl))
 f320 := Tryz.func186.trans (congrArg some (by kernel_rfl))
 f337 := Tryz.func197.trans (congrArg some (by kernel_rfl))
 f338 := Tryz.func198.trans (congrArg some (by kernel_rfl))
 t0 := Tryz.underlying0
 a0 := Tryz.isAgg0
 z0 := Tryz.sizeOf0
 v0 := Tryz.zeroValue0
 t2 := Tryz.underlying2
 a2 := Tryz.isAgg2
 z2 := Tryz.sizeOf2
 v2 := Tryz.zeroValue2
 t3 := Tryz.underlying3
 a3 := Tryz.isAgg3
 z3 := Tryz.sizeOf3
 v3 := Tryz.zeroValue3
 t4 := Tryz.underlying4
 a4 := Tryz.isAgg4
 z4 := Tryz.sizeOf4
 v4 := Tryz.zeroValue4
 t5 := Tryz.underlying5
 a5 := Tryz.isAgg5
 z5 := Tryz.sizeOf5
 v5 := Tryz.zeroValue5
 t9 := Tryz.underlying9
 a9 := Tryz.isAgg9
 z9 := Tryz.sizeOf9
 v9 := Tryz.zeroValue9
 t20 := Tryz.underlying20
 a20 := Tryz.isAgg20
 z20 := Tryz.sizeOf20
 v20 := Tryz.zeroValue20
 t37 := Tryz.underlying41
 a37 := Tryz.isAgg41
 z37 := Tryz.sizeOf41
 v37 := Tryz.zeroValue41
 t46 := Tryz.underlying56
 a46 := Tryz.isAgg56
 z46 := Tryz.sizeOf56
 v46 := Tryz.zeroValue56
 t51 := Tryz.underlying206
 a51 := Tryz.isAgg206
 z51 := Tryz.sizeOf206
 v51 := Tryz.zeroValue206
 t53 := Tryz.underlying176
 a53 := Tryz.isAgg176
 z53 := Tryz.sizeOf176
 v53 := Tryz.zeroValue176
 t171 := Tryz.underlying201
 a171 := Tryz.isAgg201
 z171 := Tryz.sizeOf201
 v171 := Tryz.zeroValue201
 t173 := Tryz.underlying204
 a173 := Tryz.isAgg204
 z173 := Tryz.sizeOf204
 v173 := Tryz.zeroValue204
 t212 := Tryz.underlying221
 a212 := Tryz.isAgg221
 z212 := Tryz.sizeOf221
 v212 := Tryz.zeroValue221
 t213 := Tryz.underlying222
 a213 := Tryz.isAgg222
 z213 := Tryz.sizeOf222
 t232 := Tryz.underlying241
 a232 := Tryz.isAgg241
 z232 := Tryz.sizeOf241
 v232 := Tryz.zeroValue241
 t233 := Tryz.underlying242
 a233 := Tryz.isAgg242
 z233 := Tryz.sizeOf242
 v233 := Tryz.zeroValue242
 g17 := by kernel_rfl
 g18 := by kernel_rfl
 g19 := by kernel_rfl }
open Go.RowKit Go.Sort Go.Lib in
theorem Tryz.strconv_Itoa_small (i : Nat) (hi : i < 100) (w : World) :
  Calls Tryz.prog 73 #[.int .i64 i] w fun e w' => e = .returned (.string ⟨(Lib.decDigits i).toArray⟩) ∧ w' = w := Any.strconv_Itoa_small Tryz.lays171 i hi w
def Tryz.laysC172_ren : Go.Shelf.Ren := ⟨fun | 172 => 114 | 244 => 145 | 245 => 146 | 247 => 170 | 279 => 171 | 280 => 172 | 281 => 173 | 282 => 174 | 287 => 187 | 316 => 188 | 171 => 73 | 205 => 189 | 321 => 199 | 322 => 200 | 243 => 109 | 246 => 138 | 283 => 164 | 284 => 165 | 285 => 166 | 286 => 167 | 129 => 183 | 317 => 182 | 318 => 184 | 319 => 185 | 320 => 186 | 337 => 197 | 338 => 198 | n => n, fun | 9 => 9 | 3 => 3 | 75 => 147 | 76 => 148 | 4 => 4 | 5 => 5 | 167 => 209 | 37 => 41 | 0 => 0 | 85 => 210 | 2 => 2 | 168 => 212 | 53 => 176 | 175 => 224 | 46 => 56 | 210 => 228 | 127 => 172 | 145 => 239 | 143 => 237 | 21 => 21 | 171 => 201 | 173 => 204 | 212 => 221 | 51 => 206 | 20 => 20 | 213 => 222 | 232 => 241 | 233 => 242 | 80 => 150 | n => n, fun | 15 => 2 | 16 => 3 | 17 => 1 | 18 => 4 | 19 => 5 | n => n⟩
theorem Tryz.laysC172 : Go.Proofs.LaysC.n172 Tryz.prog Tryz.laysC172_ren := {
 mixed := by kernel_rfl
 f129 := Tryz.func183.trans (congrArg some (by kernel_rfl))
 f171 := Tryz.func73.trans (congrArg some (by kernel_rfl))
 f172 := Tryz.func114.trans (congrArg some (by kernel_rfl))
 f205 := Tryz.func189.trans (congrArg some (by kernel_rfl))
 f243 := Tryz.func109.trans (congrArg some (by kernel_rfl))
 f244 := Tryz.func145.trans (congrArg some (by kernel_rfl))
 f245 := Tryz.func146.trans (congrArg some (by kernel_rfl))
 f246 := Tryz.func138.trans (congrArg some (by kernel_rfl))
 f247 := Tryz.func170.trans (congrArg some (by kernel_rfl))
 f279 := Tryz.func171.trans (congrArg some (by kernel_rfl))
 f280 := Tryz.func172.trans (congrArg some (by kernel_rfl))
 f281 := Tryz.func173.trans (congrArg some (by kernel_rfl))
 f282 := Tryz.func174.trans (congrArg some (by kernel_rfl))
 f283 := Tryz.func164.trans (congrArg some (by kernel_rfl))
 f284 := Tryz.func165.trans (congrArg some (by kernel_rfl))
 f285 := Tryz.func166.trans (congrArg some (by kernel_rfl))
 f286 := Tryz.func167.trans (congrArg some (by kernel_rfl))
 f287 := Tryz.func187.trans (congrArg some (by kernel_rfl))
 f316 := Tryz.func188.trans (congrArg some (by kernel_rfl))
 f317 := Tryz.func182.trans (congrArg some (by kernel_rfl))
 f318 := Tryz.func184.trans (congrArg some (by kernel_rfl))
 f319 := Tryz.func185.trans (congrArg some (by kernel_rfl))
 f320 := Tryz.func186.trans (congrArg some (by kernel_rfl))
 f321 := Tryz.func199.trans (congrArg some (by kernel_rfl))
 f322 := Tryz.func200.trans (congrArg some (by kernel_rfl))
 f337 := Tryz.func197.trans (congrArg some (by kernel_rfl))
 f338 := Tryz.func198.trans (congrArg some (by kernel_rfl))
 t0 := Tryz.underlying0
 a0 := Tryz.isAgg0
 z0 := Tryz.sizeOf0
 v0 := Tryz.zeroValue0
 t2 := Tryz.underlying2
 a2 := Tryz.isAgg2
 z2 := Tryz.sizeOf2
 v2 := Tryz.zeroValue2
 t3 := Tryz.underlying3
 a3 := Tryz.isAgg3
 z3 := Tryz.sizeOf3
 v3 := Tryz.zeroValue3
 t4 := Tryz.underlying4
 a4 := Tryz.isAgg4
 z4 := Tryz.sizeOf4
 v4 := Tryz.zeroValue4
 t5 := Tryz.underlying5
 a5 := Tryz.isAgg5
 z5 := Tryz.sizeOf5
 v5 := Tryz.zeroValue5
 t9 := Tryz.underlying9
 a9 := Tryz.isAgg9
 z9 := Tryz.sizeOf9
 v9 := Tryz.zeroValue9
 t20 := Tryz.underlying20
 a20 := Tryz.isAgg20
 z20 := Tryz.sizeOf20
 v20 := Tryz.zeroValue20
 t21 := Tryz.underlying21
 a21 := Tryz.isAgg21
 z21 := Tryz.sizeOf21
 v21 := Tryz.zeroValue21
 t37 := Tryz.underlying41
 a37 := Tryz.isAgg41
 z37 := Tryz.sizeOf41
 v37 := Tryz.zeroValue41
 t46 := Tryz.underlying56
 a46 := Tryz.isAgg56
 z46 := Tryz.sizeOf56
 v46 := Tryz.zeroValue56
 t51 := Tryz.underlying206
 a51 := Tryz.isAgg206
 z51 := Tryz.sizeOf206
 v51 := Tryz.zeroValue206
 t53 := Tryz.underlying176
 a53 := Tryz.isAgg176
 z53 := Tryz.sizeOf176
 v53 := Tryz.zeroValue176
 t75 := Tryz.underlying147
 a75 := Tryz.isAgg147
 z75 := Tryz.sizeOf147
 v75 := Tryz.zeroValue147
 t76 := Tryz.underlying148
 a76 := Tryz.isAgg148
 z76 := Tryz.sizeOf148
 v76 := Tryz.zeroValue148
 t85 := Tryz.underlying210
 a85 := Tryz.isAgg210
 z85 := Tryz.sizeOf210
 v85 := Tryz.zeroValue210
 t127 := Tryz.underlying172
 a127 := Tryz.isAgg172
 z127 := Tryz.sizeOf172
 v127 := Tryz.zeroValue172
 t143 := Tryz.underlying237
 a143 := Tryz.isAgg237
 z143 := Tryz.sizeOf237
 v143 := Tryz.zeroValue237
 t145 := Tryz.underlying239
 a145 := Tryz.isAgg239
 z145 := Tryz.sizeOf239
 v145 := Tryz.zeroValue239
 t167 := Tryz.underlying209
 a167 := Tryz.isAgg209
 z167 := Tryz.sizeOf209
 v167 := Tryz.zeroValue209
 t168 := Tryz.underlying212
 a168 := Tryz.isAgg212
 z168 := Tryz.sizeOf212
 v168 := Tryz.zeroValue212
 t171 := Tryz.underlying201
 a171 := Tryz.isAgg201
 z171 := Tryz.sizeOf201
 v171 := Tryz.zeroValue201
 t173 := Tryz.underlying204
 a173 := Tryz.isAgg204
 z173 := Tryz.sizeOf204
 v173 := Tryz.zeroValue204
 t175 := Tryz.underlying224
 a175 := Tryz.isAgg224
 z175 := Tryz.sizeOf224
 v175 := Tryz.zeroValue224
 t210 := Tryz.underlying228
 a210 := Tryz.isAgg228
 z210 := Tryz.sizeOf228
 v210 := Tryz.zeroValue228
 t212 := Tryz.underlying221
 a212 := Tryz.isAgg221
 z212 := Tryz.sizeOf221
 v212 := Tryz.zeroValue221
 t213 := Tryz.underlying222
 a213 := Tryz.isAgg222
 z213 := Tryz.sizeOf222
 t232 := Tryz.underlying241
 a232 := Tryz.isAgg241
 z232 := Tryz.sizeOf241
 v232 := Tryz.zeroValue241
 t233 := Tryz.underlying242
 a233 := Tryz.isAgg242
 z233 := Tryz.sizeOf242
 v233 := Tryz.zeroValue242
 g15 := by kernel_rfl
 g16 := by kernel_rfl
 g17 := by kernel_rfl
 g18 := by kernel_rfl
 g19 := by kernel_rfl
 t80 := Tryz.underlying150
 a80 := Tryz.isAgg150
 z80 := Tryz.sizeOf150
 v80 := Tryz.zeroValue150
 i0 := by kernel_rfl
 i2 := by kernel_rfl
 i3 := by kernel_rfl
 i4 := by kernel_rfl
 i5 := by kernel_rfl
 i9 := by kernel_rfl
 i20 := by kernel_rfl
 i21 := by kernel_rfl
 i37 := by kernel_rfl
 i46 := by kernel_rfl
 i51 := by kernel_rfl
 i53 := by kernel_rfl
 i75 := by kernel_rfl
 i76 := by kernel_rfl
 i80 := by kernel_rfl
 i85 := by kernel_rfl
 i127 := by kernel_rfl
 i143 := by kernel_rfl
 i145 := by kernel_rfl
 i167 := by kernel_rfl
 i168 := by kernel_rfl
 i171 := by kernel_rfl
 i173 := by kernel_rfl
 i175 := by kernel_rfl
 i210 := by kernel_rfl
 i212 := by kernel_rfl
 i232 := by kernel_rfl
 i233 := by kernel_rfl
 m15 := by kernel_rfl
 m16 := by kernel_rfl
 m17 := by kernel_rfl
 m18 := by kernel_rfl
 m19 := by kernel_rfl
 c0 := by kernel_rfl
 c2 := by kernel_rfl
 c3 := by kernel_rfl
 c4 := by kernel_rfl
 c5 := by kernel_rfl
 c9 := by kernel_rfl
 c20 := by kernel_rfl
 c21 := by kernel_rfl
 c37 := by kernel_rfl
 c46 := by kernel_rfl
 c51 := by kernel_rfl
 c53 := by kernel_rfl
 c75 := by kernel_rfl
 c76 := by kernel_rfl
 c80 := by kernel_rfl
 c85 := by kernel_rfl
 c127 := by kernel_rfl
 c143 := by kernel_rfl
 c145 := by kernel_rfl
 c167 := by kernel_rfl
 c168 := by kernel_rfl
 c171 := by kernel_rfl
 c173 := by kernel_rfl
 c175 := by kernel_rfl
 c210 := by kernel_rfl
 c212 := by kernel_rfl
 c213 := by kernel_rfl
 c232 := by kernel_rfl
 c233 := by kernel_rfl }
open Go.RowKit in
theorem Tryz.strconv_Atoi_ok (s : ByteArray) (hmax : s.size ≤ 9223372036854775806) (v : Int) (h : Lib.atoiAll s.data.toList = .ok v) (w : World) :
  Calls Tryz.prog 114 #[.string s] w fun e w' => e = .returned (.tuple #[.int .i64 v, .nilIface]) ∧ (w' = w ∨ ∃ t, w' = Lib.bytesWorld w 5 t) := Any.strconv_Atoi_ok Tryz.laysC172 s hmax v h w
open Go.RowKit in
theorem Tryz.strconv_Atoi_syntax (s : ByteArray) (hlim : s.size ≤ 281474976710656) (h : Lib.atoiAll s.data.toList = Lib.atoiAll []) (ev : Value) (w : World) (hv : w.cell? ⟨2, 0, none⟩ = some ev) (hev : ev = .nilIface ∨ ∃ te pe, ev = .iface te pe) :
  Calls Tryz.prog 114 #[.string s] w fun e w' => ∃ N, e = .returned (.tuple #[.int .i64 (0), .iface 212 (.pointer (some ⟨N, 0, none⟩))]) ∧ w.heap.size ≤ N ∧ w'.heap[N]? = some (.cells #[.string ⟨#[65, 116, 111, 105]⟩, .string s, ev] 228 (0, 0)) ∧ Below w.heap.size w w' := Any.strconv_Atoi_syntax Tryz.laysC172 s hlim (h.trans rfl) ev w hv hev
open Go.RowKit in
theorem Tryz.strconv_Atoi_range (s : ByteArray) (hlim : s.size ≤ 281474976710656) (h : Lib.atoiAll s.data.toList = .range) (ev : Value) (w : World) (hv : w.cell? ⟨3, 0, none⟩ = some ev) (hev : ev = .nilIface ∨ ∃ te pe, ev = .iface te pe) :
  Calls Tryz.prog 114 #[.string s] w fun e w' => ∃ N, e = .returned (.tuple #[.int .i64 (Lib.atoiSat s.data.toList), .iface 212 (.pointer (some ⟨N, 0, none⟩))]) ∧ w.heap.size ≤ N ∧ w'.heap[N]? = some (.cells #[.string ⟨#[65, 116, 111, 105]⟩, .string s, ev] 228 (0, 0)) ∧ Below w.heap.size w w' := Any.strconv_Atoi_range Tryz.laysC172 s hlim h ev w hv hev
def Tryz.lays145_ren : Go.Shelf.Ren := ⟨fun | 145 => 40 | 220 => 77 | 219 => 111 | 217 => 139 | 225 => 140 | 224 => 141 | 267 => 142 | 266 => 168 | 314 => 169 | n => n, fun | 9 => 9 | 4 => 4 | 59 => 93 | 3 => 3 | 5 => 5 | 46 => 56 | 146 => 207 | 51 => 206 | n => n, fun | 1 => 0 | n => n⟩
theorem Tryz.lays145 : Go.Proofs.Lays.n145 Tryz.prog Tryz.lays145_ren := {
 mixed := by kernel_rfl
 f145 := Tryz.func40.trans (congrArg some (by kernel_rfl))
 f217 := Tryz.func139.trans (congrArg some (by kernel_rfl))
 f219 := Tryz.func111.trans (congrArg some (by kernel_rfl))
 f220 := Tryz.func77.trans (congrArg some (by kernel_rfl))
 f224 := Tryz.func141.trans (congrArg some (by kernel_rfl))
 f225 := Tryz.func140.trans (congrArg some (by kernel_rfl))
 f266 := Tryz.func168.trans (congrArg some (by kernel_rfl))
 f267 := Tryz.func142.trans (congrArg some (by kernel_rfl))
 f314 := Tryz.func169.trans (congrArg some (by kernel_rfl))
 t3 := Tryz.underlying3
 a3 := Tryz.isAgg3
 z3 := Tryz.sizeOf3
 v3 := Tryz.zeroValue3
 t4 := Tryz.underlying4
 a4 := Tryz.isAgg4
 z4 := Tryz.sizeOf4
 v4 := Tryz.zeroValue4
 t5 := Tryz.underlying5
 a5 := Tryz.isAgg5
 z5 := Tryz.sizeOf5
 v5 := Tryz.zeroValue5
 t9 := Tryz.underlying9
 a9 := Tryz.isAgg9
 z9 := Tryz.sizeOf9
 v9 := Tryz.zeroValue9
 t46 := Tryz.underlying56
 a46 := Tryz.isAgg56
 z46 := Tryz.sizeOf56
 v46 := Tryz.zeroValue56
 t51 := Tryz.underlying206
 a51 := Tryz.isAgg206
 z51 := Tryz.sizeOf206
 v51 := Tryz.zeroValue206
 t59 := Tryz.underlying93
 a59 := Tryz.isAgg93
 z59 := Tryz.sizeOf93
 v59 := Tryz.zeroValue93
 t146 := Tryz.underlying207
 a146 := Tryz.isAgg207
 z146 := Tryz.sizeOf207
 v146 := Tryz.zeroValue207
 g1 := by kernel_rfl }
open Go.RowKit Go.Lib in
theorem Tryz.strings_Cut (s sep : ByteArray) (m : Int) (w : World) (hs : s.size < 4294967281) (hm : w.cell? ⟨0, 0, none⟩ = some (.int .i64 m)) :
  Calls Tryz.prog 40 #[.string s, .string sep] w fun e w' => e = .returned (.tuple #[.string ⟨(Lib.cut s.data.toList sep.data.toList).1.toArray⟩, .string ⟨(Lib.cut s.data.toList sep.data.toList).2.1.toArray⟩, .bool (Lib.cut s.data.toList sep.data.toList).2.2]) ∧ ∃ n, w' = w.drewN n := Any.strings_Cut Tryz.lays145 s sep m w hs hm
def Tryz.lays100_ren : Go.Shelf.Ren := ⟨fun | 100 => 116 | 207 => 144 | n => n, fun | 9 => 9 | 4 => 4 | 3 => 3 | n => n, fun | n => n⟩
theorem Tryz.lays100 : Go.Proofs.Lays.n100 Tryz.prog Tryz.lays100_ren := {
 mixed := by kernel_rfl
 f100 := Tryz.func116.trans (congrArg some (by kernel_rfl))
 f207 := Tryz.func144.trans (congrArg some (by kernel_rfl))
 t3 := Tryz.underlying3
 a3 := Tryz.isAgg3
 z3 := Tryz.sizeOf3
 v3 := Tryz.zeroValue3
 t4 := Tryz.underlying4
 a4 := Tryz.isAgg4
 z4 := Tryz.sizeOf4
 v4 := Tryz.zeroValue4
 t9 := Tryz.underlying9
 a9 := Tryz.isAgg9
 z9 := Tryz.sizeOf9
 v9 := Tryz.zeroValue9 }
open Go.RowKit Go.Lib in
theorem Tryz.strings_HasSuffix (s p : ByteArray) (w : World) (hs : s.size ≤ 9223372036854775807) :
  Calls Tryz.prog 116 #[.string s, .string p] w fun e w' => e = .returned (.bool (Lib.hasSuffix s.data.toList p.data.toList)) ∧ w' = w := Any.strings_HasSuffix Tryz.lays100 s p w hs
def Tryz.lays146_ren : Go.Shelf.Ren := ⟨fun | 146 => 117 | 221 => 147 | 268 => 175 | 138 => 176 | 143 => 177 | 195 => 190 | 197 => 191 | 218 => 192 | 219 => 111 | 260 => 201 | 217 => 139 | 225 => 140 | 224 => 141 | 267 => 142 | 266 => 168 | 314 => 169 | n => n, fun | 9 => 9 | 31 => 45 | 3 => 3 | 4 => 4 | 0 => 0 | 105 => 231 | 21 => 21 | 5 => 5 | 46 => 56 | 119 => 243 | 139 => 246 | 138 => 245 | 146 => 207 | 51 => 206 | n => n, fun | 1 => 0 | 3 => 6 | 4 => 7 | n => n⟩
theorem Tryz.lays146 : Go.Proofs.Lays.n146 Tryz.prog Tryz.lays146_ren := {
 mixed := by kernel_rfl
 f138 := Tryz.func176.trans (congrArg some (by kernel_rfl))
 f143 := Tryz.func177.trans (congrArg some (by kernel_rfl))
 f146 := Tryz.func117.trans (congrArg some (by kernel_rfl))
 f195 := Tryz.func190.trans (congrArg some (by kernel_rfl))
 f197 := Tryz.func191.trans (congrArg some (by kernel_rfl))
 f217 := Tryz.func139.trans (congrArg some (by kernel_rfl))
 f218 := Tryz.func192.trans (congrArg some (by kernel_rfl))
 f219 := Tryz.func111.trans (congrArg some (by kernel_rfl))
 f221 := Tryz.func147.trans (congrArg some (by kernel_rfl))
 f224 := Tryz.func141.trans (congrArg some (by kernel_rfl))
 f225 := Tryz.func140.trans (congrArg some (by kernel_rfl))
 f260 := Tryz.func201.trans (congrArg some (by kernel_rfl))
 f266 := Tryz.func168.trans (congrArg some (by kernel_rfl))
 f267 := Tryz.func142.trans (congrArg some (by kernel_rfl))
 f268 := Tryz.func175.trans (congrArg some (by kernel_rfl))
 f314 := Tryz.func169.trans (congrArg some (by kernel_rfl))
 t0 := Tryz.underlying0
 a0 := Tryz.isAgg0
 z0 := Tryz.sizeOf0
 v0 := Tryz.zeroValue0
 t3 := Tryz.underlying3
 a3 := Tryz.isAgg3
 z3 := Tryz.sizeOf3
 v3 := Tryz.zeroValue3
 t4 := Tryz.underlying4
 a4 := Tryz.isAgg4
 z4 := Tryz.sizeOf4
 v4 := Tryz.zeroValue4
 t5 := Tryz.underlying5
 a5 := Tryz.isAgg5
 z5 := Tryz.sizeOf5
 v5 := Tryz.zeroValue5
 t9 := Tryz.underlying9
 a9 := Tryz.isAgg9
 z9 := Tryz.sizeOf9
 v9 := Tryz.zeroValue9
 t21 := Tryz.underlying21
 a21 := Tryz.isAgg21
 z21 := Tryz.sizeOf21
 v21 := Tryz.zeroValue21
 t31 := Tryz.underlying45
 a31 := Tryz.isAgg45
 z31 := Tryz.sizeOf45
 v31 := Tryz.zeroValue45
 t46 := Tryz.underlying56
 a46 := Tryz.isAgg56
 z46 := Tryz.sizeOf56
 v46 := Tryz.zeroValue56
 t51 := Tryz.underlying206
 a51 := Tryz.isAgg206
 z51 := Tryz.sizeOf206
 v51 := Tryz.zeroValue206
 t105 := Tryz.underlying231
 a105 := Tryz.isAgg231
 z105 := Tryz.sizeOf231
 v105 := Tryz.zeroValue231
 t119 := Tryz.underlying243
 a119 := Tryz.isAgg243
 z119 := Tryz.sizeOf243
 t138 := Tryz.underlying245
 a138 := Tryz.isAgg245
 z138 := Tryz.sizeOf245
 v138 := Tryz.zeroValue245
 t139 := Tryz.underlying246
 a139 := Tryz.isAgg246
 z139 := Tryz.sizeOf246
 v139 := Tryz.zeroValue246
 t146 := Tryz.underlying207
 a146 := Tryz.isAgg207
 z146 := Tryz.sizeOf207
 v146 := Tryz.zeroValue207
 g1 := by kernel_rfl
 g3 := by kernel_rfl
 g4 := by kernel_rfl }
open Go.RowKit Go.Lib in
theorem Tryz.strings_Split (s sep : ByteArray) (m : Int) (w : World) (hs : s.size < 4294967281) (hm : w.cell? ⟨0, 0, none⟩ = some (.int .i64 m)) (h1 : 1 ≤ sep.size) :
  Calls Tryz.prog 117 #[.string s, .string sep] w fun e w' =>
   e = .returned (.slice (some ⟨w.heap.size, 0, none⟩) (Lib.countB s sep + 1) (Lib.countB s sep + 1)) ∧ w' = w.alloc (.cells ((Lib.splitB sep 0 (Lib.countB s sep) s).map Value.string).toArray 9) := Any.strings_Split Tryz.lays146 (by kernel_rfl) s sep m w hs hm h1
end Go.Proofs
