/-
  DERIVED: THE SHELF's CONTRACTS AT THIS DUMP, IN PLAIN WORDS (tools/lay-plain.mjs out of 'TrydShelf.lean', which tools/lay-shelf.mjs wrote): THE SAME DECLARATIONS UNDER THE SAME NAMES: 'import', 'namespace', 'open', 'def', 'theorem' AND NOTHING ELSE: no command of the shelf's: FOR A HAND-IN. Each laying: the table of numbers ('.._ren') and one theorem, a field a fact of the dump's own or the kernel's comparison; each contract: ONE APPLICATION.
-/
import Derived.Shelf.Strings.OnBuilder
import Derived.Shelf.Small.Strs
import Derived.Shelf.Utf8.RuneCount
import Derived.Shelf.Strconv.Itoa0
import Derived.Shelf.Strconv.Itoa1
import Derived.Shelf.LaysM
import Derived.Shelf.Strconv.Itoa2
import Derived.Shelf.Strconv.Itoa3
import Derived.Shelf.Strconv.Itoa4
import Derived.Shelf.Strings.Search1
import Derived.Shelf.Strings.Search2
import Derived.Shelf.Strings.Search3
import Derived.Shelf.Strings.Cut
import Derived.Shelf.Strings.Count
import Derived.Shelf.Strings.Shaped
import Derived.Shelf.Strings.Split
import Derived.Shelf.Strings.SplitShaped
import Derived.Shelf.Unicode.Decode
import Derived.Shelf.Strings.RuneCount
import Derived.Shelf.Strings.Explode
import Derived.Shelf.Unicode.DecodeSlow
import Derived.Shelf.Unicode.DecodeAny
import Derived.Test.YtjlalepbhcekoaaDoorProg
namespace Go.Proofs
open Go.Shelf
def Tryd.lays156_ren : Go.Shelf.Ren := ⟨fun | 156 => 90 | 165 => 118 | 166 => 119 | 169 => 120 | 240 => 136 | 241 => 137 | 276 => 152 | 277 => 153 | n => n, fun | 31 => 71 | 9 => 9 | 3 => 3 | 4 => 4 | 0 => 0 | 20 => 20 | 72 => 160 | 76 => 164 | 70 => 158 | 37 => 22 | 75 => 163 | 127 => 178 | 164 => 187 | 5 => 5 | 80 => 166 | n => n, fun | n => n⟩
theorem Tryd.lays156 : Go.Proofs.Lays.n156 Tryd.prog Tryd.lays156_ren := {
  mixed := by kernel_rfl
  f156 := Tryd.func90.trans (congrArg some (by kernel_rfl))
  f165 := Tryd.func118.trans (congrArg some (by kernel_rfl))
  f166 := Tryd.func119.trans (congrArg some (by kernel_rfl))
  f169 := Tryd.func120.trans (congrArg some (by kernel_rfl))
  f240 := Tryd.func136.trans (congrArg some (by kernel_rfl))
  f241 := Tryd.func137.trans (congrArg some (by kernel_rfl))
  f276 := Tryd.func152.trans (congrArg some (by kernel_rfl))
  f277 := Tryd.func153.trans (congrArg some (by kernel_rfl))
  t0 := Tryd.underlying0
  a0 := Tryd.isAgg0
  z0 := Tryd.sizeOf0
  v0 := Tryd.zeroValue0
  t3 := Tryd.underlying3
  a3 := Tryd.isAgg3
  z3 := Tryd.sizeOf3
  v3 := Tryd.zeroValue3
  t4 := Tryd.underlying4
  a4 := Tryd.isAgg4
  z4 := Tryd.sizeOf4
  v4 := Tryd.zeroValue4
  t9 := Tryd.underlying9
  a9 := Tryd.isAgg9
  z9 := Tryd.sizeOf9
  v9 := Tryd.zeroValue9
  t20 := Tryd.underlying20
  a20 := Tryd.isAgg20
  z20 := Tryd.sizeOf20
  v20 := Tryd.zeroValue20
  t31 := Tryd.underlying71
  a31 := Tryd.isAgg71
  z31 := Tryd.sizeOf71
  v31 := Tryd.zeroValue71
  t37 := Tryd.underlying22
  a37 := Tryd.isAgg22
  z37 := Tryd.sizeOf22
  v37 := Tryd.zeroValue22
  t70 := Tryd.underlying158
  a70 := Tryd.isAgg158
  z70 := Tryd.sizeOf158
  v70 := Tryd.zeroValue158
  t72 := Tryd.underlying160
  a72 := Tryd.isAgg160
  z72 := Tryd.sizeOf160
  v72 := Tryd.zeroValue160
  t75 := Tryd.underlying163
  a75 := Tryd.isAgg163
  z75 := Tryd.sizeOf163
  v75 := Tryd.zeroValue163
  t76 := Tryd.underlying164
  a76 := Tryd.isAgg164
  z76 := Tryd.sizeOf164
  v76 := Tryd.zeroValue164
  t127 := Tryd.underlying178
  a127 := Tryd.isAgg178
  z127 := Tryd.sizeOf178
  v127 := Tryd.zeroValue178
  t164 := Tryd.underlying187
  a164 := Tryd.isAgg187
  z164 := Tryd.sizeOf187
  v164 := Tryd.zeroValue187 }
theorem Tryd.Builder_Extra_156 : Builder.Extra Tryd.prog Tryd.lays156_ren := {
  sizeBuilder := by kernel_rfl
  liesBuilder := by kernel_rfl
  t5 := Tryd.underlying5
  a5 := Tryd.isAgg5
  z5 := Tryd.sizeOf5
  v5 := Tryd.zeroValue5
  infoByte := by kernel_rfl
  cellsByte := by kernel_rfl
  sizeByte := by kernel_rfl
  neB5 := by decide }
open Go.RowKit in
theorem Tryd.strings_Join_none (a : Option Addr) (c : Nat) (sep : ByteArray) (w : World) :
    Calls Tryd.prog 90 #[.slice a 0 c, .string sep] w fun e w' => e = .returned (.string ⟨#[]⟩) ∧ w' = w := Any.strings_Join_none Tryd.lays156 Tryd.Builder_Extra_156 a c sep w
open Go.RowKit in
theorem Tryd.strings_Join (bk o c : Nat) (xs : List ByteArray) (sep : ByteArray) (w : World) (hcells : ∀ (j : Nat) x, xs[j]? = some x → w.cell? ⟨bk, o + j, none⟩ = some (.string x)) (hbk : bk < w.heap.size) (hN : xs.length ≤ 140737488355328) (hcap : xs.length ≤ c) (hlen : (Lib.join (xs.map (·.data.toList)) sep.data.toList).length ≤ 140737488355328) :
    Calls Tryd.prog 90 #[.slice (some ⟨bk, o, none⟩) xs.length c, .string sep] w fun e w' => e = .returned (.string ⟨(Lib.join (xs.map (·.data.toList)) sep.data.toList).toArray⟩) ∧ Below w.heap.size w w' := Any.strings_Join Tryd.lays156 Tryd.Builder_Extra_156 bk o c xs sep w hcells hbk hN hcap hlen
def Tryd.lays137_ren : Go.Shelf.Ren := ⟨fun | 137 => 116 | 217 => 135 | 266 => 151 | n => n, fun | 9 => 9 | 5 => 5 | 3 => 3 | n => n, fun | n => n⟩
theorem Tryd.lays137 : Go.Proofs.Lays.n137 Tryd.prog Tryd.lays137_ren := {
  mixed := by kernel_rfl
  f137 := Tryd.func116.trans (congrArg some (by kernel_rfl))
  f217 := Tryd.func135.trans (congrArg some (by kernel_rfl))
  f266 := Tryd.func151.trans (congrArg some (by kernel_rfl))
  t3 := Tryd.underlying3
  a3 := Tryd.isAgg3
  z3 := Tryd.sizeOf3
  v3 := Tryd.zeroValue3
  t5 := Tryd.underlying5
  a5 := Tryd.isAgg5
  z5 := Tryd.sizeOf5
  v5 := Tryd.zeroValue5
  t9 := Tryd.underlying9
  a9 := Tryd.isAgg9
  z9 := Tryd.sizeOf9
  v9 := Tryd.zeroValue9 }
open Go.RowKit in
theorem Tryd.strings_IndexByte (s : ByteArray) (c : Int) (w : World) :
    Calls Tryd.prog 116 #[.string s, .int .u8 c] w fun e w' => e = .returned (.int .i64 (Lib.indexByte s.data.toList c.toNat.toUInt8)) ∧ w' = w := Any.strings_IndexByte Tryd.lays137 s c w
def Tryd.laysM173_ren : Go.Shelf.Ren := ⟨fun | 173 => 121 | 246 => 138 | 283 => 154 | 284 => 155 | 285 => 156 | 286 => 157 | 129 => 165 | 317 => 164 | 318 => 166 | 319 => 167 | 320 => 168 | 337 => 169 | 338 => 170 | n => n, fun | 2 => 2 | 3 => 3 | 9 => 9 | 4 => 4 | 171 => 191 | 0 => 0 | 53 => 123 | 37 => 22 | 5 => 5 | 173 => 194 | 212 => 200 | 51 => 58 | 20 => 20 | 213 => 201 | 46 => 175 | 232 => 209 | 233 => 210 | n => n, fun | 17 => 1 | 18 => 4 | 19 => 5 | n => n⟩
theorem Tryd.laysM173 : Go.Proofs.LaysM.n173 Tryd.prog Tryd.laysM173_ren := {
  mixed := by kernel_rfl
  f129 := Tryd.func165.trans (congrArg some (by kernel_rfl))
  f173 := Tryd.func121.trans (congrArg some (by kernel_rfl))
  f246 := Tryd.func138.trans (congrArg some (by kernel_rfl))
  f283 := Tryd.func154.trans (congrArg some (by kernel_rfl))
  f284 := Tryd.func155.trans (congrArg some (by kernel_rfl))
  f285 := Tryd.func156.trans (congrArg some (by kernel_rfl))
  f286 := Tryd.func157.trans (congrArg some (by kernel_rfl))
  f317 := Tryd.func164.trans (congrArg some (by kernel_rfl))
  f318 := Tryd.func166.trans (congrArg some (by kernel_rfl))
  f319 := Tryd.func167.trans (congrArg some (by kernel_rfl))
  f320 := Tryd.func168.trans (congrArg some (by kernel_rfl))
  f337 := Tryd.func169.trans (congrArg some (by kernel_rfl))
  f338 := Tryd.func170.trans (congrArg some (by kernel_rfl))
  t0 := Tryd.underlying0
  a0 := Tryd.isAgg0
  z0 := Tryd.sizeOf0
  v0 := Tryd.zeroValue0
  t2 := Tryd.underlying2
  a2 := Tryd.isAgg2
  z2 := Tryd.sizeOf2
  v2 := Tryd.zeroValue2
  t3 := Tryd.underlying3
  a3 := Tryd.isAgg3
  z3 := Tryd.sizeOf3
  v3 := Tryd.zeroValue3
  t4 := Tryd.underlying4
  a4 := Tryd.isAgg4
  z4 := Tryd.sizeOf4
  v4 := Tryd.zeroValue4
  t5 := Tryd.underlying5
  a5 := Tryd.isAgg5
  z5 := Tryd.sizeOf5
  v5 := Tryd.zeroValue5
  t9 := Tryd.underlying9
  a9 := Tryd.isAgg9
  z9 := Tryd.sizeOf9
  v9 := Tryd.zeroValue9
  t20 := Tryd.underlying20
  a20 := Tryd.isAgg20
  z20 := Tryd.sizeOf20
  v20 := Tryd.zeroValue20
  t37 := Tryd.underlying22
  a37 := Tryd.isAgg22
  z37 := Tryd.sizeOf22
  v37 := Tryd.zeroValue22
  t46 := Tryd.underlying175
  a46 := Tryd.isAgg175
  z46 := Tryd.sizeOf175
  v46 := Tryd.zeroValue175
  t51 := Tryd.underlying58
  a51 := Tryd.isAgg58
  z51 := Tryd.sizeOf58
  v51 := Tryd.zeroValue58
  t53 := Tryd.underlying123
  a53 := Tryd.isAgg123
  z53 := Tryd.sizeOf123
  v53 := Tryd.zeroValue123
  t171 := Tryd.underlying191
  a171 := Tryd.isAgg191
  z171 := Tryd.sizeOf191
  v171 := Tryd.zeroValue191
  t173 := Tryd.underlying194
  a173 := Tryd.isAgg194
  z173 := Tryd.sizeOf194
  v173 := Tryd.zeroValue194
  t212 := Tryd.underlying200
  a212 := Tryd.isAgg200
  z212 := Tryd.sizeOf200
  v212 := Tryd.zeroValue200
  t213 := Tryd.underlying201
  a213 := Tryd.isAgg201
  z213 := Tryd.sizeOf201
  t232 := Tryd.underlying209
  a232 := Tryd.isAgg209
  z232 := Tryd.sizeOf209
  v232 := Tryd.zeroValue209
  t233 := Tryd.underlying210
  a233 := Tryd.isAgg210
  z233 := Tryd.sizeOf210
  v233 := Tryd.zeroValue210
  g17 := by kernel_rfl
  g18 := by kernel_rfl
  g19 := by kernel_rfl
  i0 := by kernel_rfl
  i2 := by kernel_rfl
  i3 := by kernel_rfl
  i4 := by kernel_rfl
  i5 := by kernel_rfl
  i9 := by kernel_rfl
  i20 := by kernel_rfl
  i37 := by kernel_rfl
  i46 := by kernel_rfl
  i51 := by kernel_rfl
  i53 := by kernel_rfl
  i171 := by kernel_rfl
  i173 := by kernel_rfl
  i212 := by kernel_rfl
  i232 := by kernel_rfl
  i233 := by kernel_rfl
  m17 := by kernel_rfl
  m18 := by kernel_rfl
  m19 := by kernel_rfl }
open Go.RowKit Go.Sort Go.Lib in
theorem Tryd.strconv_FormatInt_10 (n : Int) (h0 : -9223372036854775808 ≤ n) (h1 : n ≤ 9223372036854775807) (w : World) (htab : Lib.TabIs Tryd.prog w "internal/strconv.uint64pow10" .u64 Lib.pow10Tab) :
    Calls Tryd.prog 121 #[.int .i64 n, .int .i64 10] w fun e w' => e = .returned (.string ⟨(Lib.itoa n).toArray⟩) ∧ ∃ k os, w' = grow (w.drewN k) os := Any.strconv_FormatInt_10 Tryd.laysM173 n h0 h1 w htab
def Tryd.lays145_ren : Go.Shelf.Ren := ⟨fun | 145 => 87 | 220 => 114 | 219 => 134 | 217 => 135 | 225 => 148 | 224 => 149 | 267 => 150 | 266 => 151 | 314 => 163 | n => n, fun | 9 => 9 | 4 => 4 | 59 => 130 | 3 => 3 | 5 => 5 | 46 => 175 | 146 => 197 | 51 => 58 | n => n, fun | 1 => 0 | n => n⟩
theorem Tryd.lays145 : Go.Proofs.Lays.n145 Tryd.prog Tryd.lays145_ren := {
  mixed := by kernel_rfl
  f145 := Tryd.func87.trans (congrArg some (by kernel_rfl))
  f217 := Tryd.func135.trans (congrArg some (by kernel_rfl))
  f219 := Tryd.func134.trans (congrArg some (by kernel_rfl))
  f220 := Tryd.func114.trans (congrArg some (by kernel_rfl))
  f224 := Tryd.func149.trans (congrArg some (by kernel_rfl))
  f225 := Tryd.func148.trans (congrArg some (by kernel_rfl))
  f266 := Tryd.func151.trans (congrArg some (by kernel_rfl))
  f267 := Tryd.func150.trans (congrArg some (by kernel_rfl))
  f314 := Tryd.func163.trans (congrArg some (by kernel_rfl))
  t3 := Tryd.underlying3
  a3 := Tryd.isAgg3
  z3 := Tryd.sizeOf3
  v3 := Tryd.zeroValue3
  t4 := Tryd.underlying4
  a4 := Tryd.isAgg4
  z4 := Tryd.sizeOf4
  v4 := Tryd.zeroValue4
  t5 := Tryd.underlying5
  a5 := Tryd.isAgg5
  z5 := Tryd.sizeOf5
  v5 := Tryd.zeroValue5
  t9 := Tryd.underlying9
  a9 := Tryd.isAgg9
  z9 := Tryd.sizeOf9
  v9 := Tryd.zeroValue9
  t46 := Tryd.underlying175
  a46 := Tryd.isAgg175
  z46 := Tryd.sizeOf175
  v46 := Tryd.zeroValue175
  t51 := Tryd.underlying58
  a51 := Tryd.isAgg58
  z51 := Tryd.sizeOf58
  v51 := Tryd.zeroValue58
  t59 := Tryd.underlying130
  a59 := Tryd.isAgg130
  z59 := Tryd.sizeOf130
  v59 := Tryd.zeroValue130
  t146 := Tryd.underlying197
  a146 := Tryd.isAgg197
  z146 := Tryd.sizeOf197
  v146 := Tryd.zeroValue197
  g1 := by kernel_rfl }
open Go.RowKit Go.Lib in
theorem Tryd.strings_Cut (s sep : ByteArray) (m : Int) (w : World) (hs : s.size < 4294967281) (hm : w.cell? ⟨0, 0, none⟩ = some (.int .i64 m)) :
    Calls Tryd.prog 87 #[.string s, .string sep] w fun e w' => e = .returned (.tuple #[.string ⟨(Lib.cut s.data.toList sep.data.toList).1.toArray⟩, .string ⟨(Lib.cut s.data.toList sep.data.toList).2.1.toArray⟩, .bool (Lib.cut s.data.toList sep.data.toList).2.2]) ∧ ∃ n, w' = w.drewN n := Any.strings_Cut Tryd.lays145 s sep m w hs hm
def Tryd.lays146_ren : Go.Shelf.Ren := ⟨fun | 146 => 86 | 221 => 113 | 268 => 131 | 138 => 132 | 143 => 133 | 195 => 145 | 197 => 146 | 218 => 147 | 219 => 134 | 260 => 162 | 217 => 135 | 225 => 148 | 224 => 149 | 267 => 150 | 266 => 151 | 314 => 163 | n => n, fun | 9 => 9 | 31 => 71 | 3 => 3 | 4 => 4 | 0 => 0 | 105 => 184 | 21 => 21 | 5 => 5 | 46 => 175 | 119 => 204 | 139 => 207 | 138 => 206 | 146 => 197 | 51 => 58 | n => n, fun | 1 => 0 | 3 => 2 | 4 => 3 | n => n⟩
theorem Tryd.lays146 : Go.Proofs.Lays.n146 Tryd.prog Tryd.lays146_ren := {
  mixed := by kernel_rfl
  f138 := Tryd.func132.trans (congrArg some (by kernel_rfl))
  f143 := Tryd.func133.trans (congrArg some (by kernel_rfl))
  f146 := Tryd.func86.trans (congrArg some (by kernel_rfl))
  f195 := Tryd.func145.trans (congrArg some (by kernel_rfl))
  f197 := Tryd.func146.trans (congrArg some (by kernel_rfl))
  f217 := Tryd.func135.trans (congrArg some (by kernel_rfl))
  f218 := Tryd.func147.trans (congrArg some (by kernel_rfl))
  f219 := Tryd.func134.trans (congrArg some (by kernel_rfl))
  f221 := Tryd.func113.trans (congrArg some (by kernel_rfl))
  f224 := Tryd.func149.trans (congrArg some (by kernel_rfl))
  f225 := Tryd.func148.trans (congrArg some (by kernel_rfl))
  f260 := Tryd.func162.trans (congrArg some (by kernel_rfl))
  f266 := Tryd.func151.trans (congrArg some (by kernel_rfl))
  f267 := Tryd.func150.trans (congrArg some (by kernel_rfl))
  f268 := Tryd.func131.trans (congrArg some (by kernel_rfl))
  f314 := Tryd.func163.trans (congrArg some (by kernel_rfl))
  t0 := Tryd.underlying0
  a0 := Tryd.isAgg0
  z0 := Tryd.sizeOf0
  v0 := Tryd.zeroValue0
  t3 := Tryd.underlying3
  a3 := Tryd.isAgg3
  z3 := Tryd.sizeOf3
  v3 := Tryd.zeroValue3
  t4 := Tryd.underlying4
  a4 := Tryd.isAgg4
  z4 := Tryd.sizeOf4
  v4 := Tryd.zeroValue4
  t5 := Tryd.underlying5
  a5 := Tryd.isAgg5
  z5 := Tryd.sizeOf5
  v5 := Tryd.zeroValue5
  t9 := Tryd.underlying9
  a9 := Tryd.isAgg9
  z9 := Tryd.sizeOf9
  v9 := Tryd.zeroValue9
  t21 := Tryd.underlying21
  a21 := Tryd.isAgg21
  z21 := Tryd.sizeOf21
  v21 := Tryd.zeroValue21
  t31 := Tryd.underlying71
  a31 := Tryd.isAgg71
  z31 := Tryd.sizeOf71
  v31 := Tryd.zeroValue71
  t46 := Tryd.underlying175
  a46 := Tryd.isAgg175
  z46 := Tryd.sizeOf175
  v46 := Tryd.zeroValue175
  t51 := Tryd.underlying58
  a51 := Tryd.isAgg58
  z51 := Tryd.sizeOf58
  v51 := Tryd.zeroValue58
  t105 := Tryd.underlying184
  a105 := Tryd.isAgg184
  z105 := Tryd.sizeOf184
  v105 := Tryd.zeroValue184
  t119 := Tryd.underlying204
  a119 := Tryd.isAgg204
  z119 := Tryd.sizeOf204
  t138 := Tryd.underlying206
  a138 := Tryd.isAgg206
  z138 := Tryd.sizeOf206
  v138 := Tryd.zeroValue206
  t139 := Tryd.underlying207
  a139 := Tryd.isAgg207
  z139 := Tryd.sizeOf207
  v139 := Tryd.zeroValue207
  t146 := Tryd.underlying197
  a146 := Tryd.isAgg197
  z146 := Tryd.sizeOf197
  v146 := Tryd.zeroValue197
  g1 := by kernel_rfl
  g3 := by kernel_rfl
  g4 := by kernel_rfl }
open Go.RowKit Go.Lib in
theorem Tryd.strings_Split (s sep : ByteArray) (m : Int) (w : World) (hs : s.size < 4294967281) (hm : w.cell? ⟨0, 0, none⟩ = some (.int .i64 m)) (h1 : 1 ≤ sep.size) :
    Calls Tryd.prog 86 #[.string s, .string sep] w fun e w' =>
      e = .returned (.slice (some ⟨w.heap.size, 0, none⟩) (Lib.countB s sep + 1) (Lib.countB s sep + 1)) ∧ w' = w.alloc (.cells ((Lib.splitB sep 0 (Lib.countB s sep) s).map Value.string).toArray 9) := Any.strings_Split Tryd.lays146 (by kernel_rfl) s sep m w hs hm h1
end Go.Proofs

