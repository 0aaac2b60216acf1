/-
  DERIVED: THE SHELF's CONTRACTS AT THIS DUMP, IN PLAIN WORDS (tools/lay-plain.mjs out of 'TrydShelf.lean', which tools/lay-shelf.mjs wrote): THE SAME DECLARATIONS UNDER THE SAME NAMES: 'import', 'namespace', 'open', 'def', 'theorem' AND NOTHING ELSE: no command of the shelf's: FOR A HAND-IN. Each laying: the table of numbers ('.._ren') and one theorem, a field a fact of the dump's own or the kernel's comparison; each contract: ONE APPLICATION.
-/
import Derived.Shelf.Strings.OnBuilder
import Derived.Shelf.Small.Strs
import Derived.Shelf.Utf8.RuneCount
import Derived.Shelf.Strconv.Itoa0
import Derived.Shelf.Strconv.Itoa1
import Derived.Shelf.LaysM
import Derived.Shelf.Strconv.Itoa2
import Derived.Shelf.Strconv.Itoa3
import Derived.Shelf.Strconv.Itoa4
import Derived.Shelf.Strings.Search1
import Derived.Shelf.Strings.Search2
import Derived.Shelf.Strings.Search3
import Derived.Shelf.Strings.Cut
import Derived.Shelf.Strings.Count
import Derived.Shelf.Strings.Shaped
import Derived.Shelf.Strings.Split
import Derived.Shelf.Strings.SplitShaped
import Derived.Shelf.Unicode.Decode
import Derived.Shelf.Strings.RuneCount
import Derived.Shelf.Strings.Explode
import Derived.Shelf.Unicode.DecodeSlow
import Derived.Shelf.Unicode.DecodeAny
import Derived.Test.YtbhbmgmnnkcmcaaDoorProg
namespace Go.Proofs
open Go.Shelf
def Tryd.lays156_ren : Go.Shelf.Ren := ⟨fun | 156 => 91 | 165 => 134 | 166 => 135 | 169 => 136 | 240 => 163 | 241 => 164 | 276 => 183 | 277 => 184 | n => n, fun | 31 => 86 | 9 => 9 | 3 => 3 | 4 => 4 | 0 => 0 | 20 => 20 | 72 => 186 | 76 => 190 | 70 => 184 | 37 => 153 | 75 => 189 | 127 => 214 | 164 => 226 | 5 => 5 | 80 => 192 | n => n, fun | n => n⟩
theorem Tryd.lays156 : Go.Proofs.Lays.n156 Tryd.prog Tryd.lays156_ren := {
  mixed := by kernel_rfl
  f156 := Tryd.func91.trans (congrArg some (by kernel_rfl))
  f165 := Tryd.func134.trans (congrArg some (by kernel_rfl))
  f166 := Tryd.func135.trans (congrArg some (by kernel_rfl))
  f169 := Tryd.func136.trans (congrArg some (by kernel_rfl))
  f240 := Tryd.func163.trans (congrArg some (by kernel_rfl))
  f241 := Tryd.func164.trans (congrArg some (by kernel_rfl))
  f276 := Tryd.func183.trans (congrArg some (by kernel_rfl))
  f277 := Tryd.func184.trans (congrArg some (by kernel_rfl))
  t0 := Tryd.underlying0
  a0 := Tryd.isAgg0
  z0 := Tryd.sizeOf0
  v0 := Tryd.zeroValue0
  t3 := Tryd.underlying3
  a3 := Tryd.isAgg3
  z3 := Tryd.sizeOf3
  v3 := Tryd.zeroValue3
  t4 := Tryd.underlying4
  a4 := Tryd.isAgg4
  z4 := Tryd.sizeOf4
  v4 := Tryd.zeroValue4
  t9 := Tryd.underlying9
  a9 := Tryd.isAgg9
  z9 := Tryd.sizeOf9
  v9 := Tryd.zeroValue9
  t20 := Tryd.underlying20
  a20 := Tryd.isAgg20
  z20 := Tryd.sizeOf20
  v20 := Tryd.zeroValue20
  t31 := Tryd.underlying86
  a31 := Tryd.isAgg86
  z31 := Tryd.sizeOf86
  v31 := Tryd.zeroValue86
  t37 := Tryd.underlying153
  a37 := Tryd.isAgg153
  z37 := Tryd.sizeOf153
  v37 := Tryd.zeroValue153
  t70 := Tryd.underlying184
  a70 := Tryd.isAgg184
  z70 := Tryd.sizeOf184
  v70 := Tryd.zeroValue184
  t72 := Tryd.underlying186
  a72 := Tryd.isAgg186
  z72 := Tryd.sizeOf186
  v72 := Tryd.zeroValue186
  t75 := Tryd.underlying189
  a75 := Tryd.isAgg189
  z75 := Tryd.sizeOf189
  v75 := Tryd.zeroValue189
  t76 := Tryd.underlying190
  a76 := Tryd.isAgg190
  z76 := Tryd.sizeOf190
  v76 := Tryd.zeroValue190
  t127 := Tryd.underlying214
  a127 := Tryd.isAgg214
  z127 := Tryd.sizeOf214
  v127 := Tryd.zeroValue214
  t164 := Tryd.underlying226
  a164 := Tryd.isAgg226
  z164 := Tryd.sizeOf226
  v164 := Tryd.zeroValue226 }
theorem Tryd.Builder_Extra_156 : Builder.Extra Tryd.prog Tryd.lays156_ren := {
  sizeBuilder := by kernel_rfl
  liesBuilder := by kernel_rfl
  t5 := Tryd.underlying5
  a5 := Tryd.isAgg5
  z5 := Tryd.sizeOf5
  v5 := Tryd.zeroValue5
  infoByte := by kernel_rfl
  cellsByte := by kernel_rfl
  sizeByte := by kernel_rfl
  neB5 := by decide }
open Go.RowKit in
theorem Tryd.strings_Join_none (a : Option Addr) (c : Nat) (sep : ByteArray) (w : World) :
    Calls Tryd.prog 91 #[.slice a 0 c, .string sep] w fun e w' => e = .returned (.string ⟨#[]⟩) ∧ w' = w := Any.strings_Join_none Tryd.lays156 Tryd.Builder_Extra_156 a c sep w
open Go.RowKit in
theorem Tryd.strings_Join (bk o c : Nat) (xs : List ByteArray) (sep : ByteArray) (w : World) (hcells : ∀ (j : Nat) x, xs[j]? = some x → w.cell? ⟨bk, o + j, none⟩ = some (.string x)) (hbk : bk < w.heap.size) (hN : xs.length ≤ 140737488355328) (hcap : xs.length ≤ c) (hlen : (Lib.join (xs.map (·.data.toList)) sep.data.toList).length ≤ 140737488355328) :
    Calls Tryd.prog 91 #[.slice (some ⟨bk, o, none⟩) xs.length c, .string sep] w fun e w' => e = .returned (.string ⟨(Lib.join (xs.map (·.data.toList)) sep.data.toList).toArray⟩) ∧ Below w.heap.size w w' := Any.strings_Join Tryd.lays156 Tryd.Builder_Extra_156 bk o c xs sep w hcells hbk hN hcap hlen
def Tryd.lays137_ren : Go.Shelf.Ren := ⟨fun | 137 => 120 | 217 => 157 | 266 => 178 | n => n, fun | 9 => 9 | 5 => 5 | 3 => 3 | n => n, fun | n => n⟩
theorem Tryd.lays137 : Go.Proofs.Lays.n137 Tryd.prog Tryd.lays137_ren := {
  mixed := by kernel_rfl
  f137 := Tryd.func120.trans (congrArg some (by kernel_rfl))
  f217 := Tryd.func157.trans (congrArg some (by kernel_rfl))
  f266 := Tryd.func178.trans (congrArg some (by kernel_rfl))
  t3 := Tryd.underlying3
  a3 := Tryd.isAgg3
  z3 := Tryd.sizeOf3
  v3 := Tryd.zeroValue3
  t5 := Tryd.underlying5
  a5 := Tryd.isAgg5
  z5 := Tryd.sizeOf5
  v5 := Tryd.zeroValue5
  t9 := Tryd.underlying9
  a9 := Tryd.isAgg9
  z9 := Tryd.sizeOf9
  v9 := Tryd.zeroValue9 }
open Go.RowKit in
theorem Tryd.strings_IndexByte (s : ByteArray) (c : Int) (w : World) :
    Calls Tryd.prog 120 #[.string s, .int .u8 c] w fun e w' => e = .returned (.int .i64 (Lib.indexByte s.data.toList c.toNat.toUInt8)) ∧ w' = w := Any.strings_IndexByte Tryd.lays137 s c w
def Tryd.laysM173_ren : Go.Shelf.Ren := ⟨fun | 173 => 133 | 246 => 162 | 283 => 179 | 284 => 180 | 285 => 181 | 286 => 182 | 129 => 192 | 317 => 191 | 318 => 193 | 319 => 194 | 320 => 195 | 337 => 197 | 338 => 198 | n => n, fun | 2 => 2 | 3 => 3 | 9 => 9 | 4 => 4 | 171 => 220 | 0 => 0 | 53 => 221 | 37 => 153 | 5 => 5 | 173 => 224 | 212 => 237 | 51 => 105 | 20 => 20 | 213 => 238 | 46 => 169 | 232 => 246 | 233 => 247 | n => n, fun | 17 => 1 | 18 => 4 | 19 => 5 | n => n⟩
theorem Tryd.laysM173 : Go.Proofs.LaysM.n173 Tryd.prog Tryd.laysM173_ren := {
  mixed := by kernel_rfl
  f129 := Tryd.func192.trans (congrArg some (by kernel_rfl))
  f173 := Tryd.func133.trans (congrArg some (by kernel_rfl))
  f246 := Tryd.func162.trans (congrArg some (by kernel_rfl))
  f283 := Tryd.func179.trans (congrArg some (by kernel_rfl))
  f284 := Tryd.func180.trans (congrArg some (by kernel_rfl))
  f285 := Tryd.func181.trans (congrArg some (by kernel_rfl))
  f286 := Tryd.func182.trans (congrArg some (by kernel_rfl))
  f317 := Tryd.func191.trans (congrArg some (by kernel_rfl))
  f318 := Tryd.func193.trans (congrArg some (by kernel_rfl))
  f319 := Tryd.func194.trans (congrArg some (by kernel_rfl))
  f320 := Tryd.func195.trans (congrArg some (by kernel_rfl))
  f337 := Tryd.func197.trans (congrArg some (by kernel_rfl))
  f338 := Tryd.func198.trans (congrArg some (by kernel_rfl))
  t0 := Tryd.underlying0
  a0 := Tryd.isAgg0
  z0 := Tryd.sizeOf0
  v0 := Tryd.zeroValue0
  t2 := Tryd.underlying2
  a2 := Tryd.isAgg2
  z2 := Tryd.sizeOf2
  v2 := Tryd.zeroValue2
  t3 := Tryd.underlying3
  a3 := Tryd.isAgg3
  z3 := Tryd.sizeOf3
  v3 := Tryd.zeroValue3
  t4 := Tryd.underlying4
  a4 := Tryd.isAgg4
  z4 := Tryd.sizeOf4
  v4 := Tryd.zeroValue4
  t5 := Tryd.underlying5
  a5 := Tryd.isAgg5
  z5 := Tryd.sizeOf5
  v5 := Tryd.zeroValue5
  t9 := Tryd.underlying9
  a9 := Tryd.isAgg9
  z9 := Tryd.sizeOf9
  v9 := Tryd.zeroValue9
  t20 := Tryd.underlying20
  a20 := Tryd.isAgg20
  z20 := Tryd.sizeOf20
  v20 := Tryd.zeroValue20
  t37 := Tryd.underlying153
  a37 := Tryd.isAgg153
  z37 := Tryd.sizeOf153
  v37 := Tryd.zeroValue153
  t46 := Tryd.underlying169
  a46 := Tryd.isAgg169
  z46 := Tryd.sizeOf169
  v46 := Tryd.zeroValue169
  t51 := Tryd.underlying105
  a51 := Tryd.isAgg105
  z51 := Tryd.sizeOf105
  v51 := Tryd.zeroValue105
  t53 := Tryd.underlying221
  a53 := Tryd.isAgg221
  z53 := Tryd.sizeOf221
  v53 := Tryd.zeroValue221
  t171 := Tryd.underlying220
  a171 := Tryd.isAgg220
  z171 := Tryd.sizeOf220
  v171 := Tryd.zeroValue220
  t173 := Tryd.underlying224
  a173 := Tryd.isAgg224
  z173 := Tryd.sizeOf224
  v173 := Tryd.zeroValue224
  t212 := Tryd.underlying237
  a212 := Tryd.isAgg237
  z212 := Tryd.sizeOf237
  v212 := Tryd.zeroValue237
  t213 := Tryd.underlying238
  a213 := Tryd.isAgg238
  z213 := Tryd.sizeOf238
  t232 := Tryd.underlying246
  a232 := Tryd.isAgg246
  z232 := Tryd.sizeOf246
  v232 := Tryd.zeroValue246
  t233 := Tryd.underlying247
  a233 := Tryd.isAgg247
  z233 := Tryd.sizeOf247
  v233 := Tryd.zeroValue247
  g17 := by kernel_rfl
  g18 := by kernel_rfl
  g19 := by kernel_rfl
  i0 := by kernel_rfl
  i2 := by kernel_rfl
  i3 := by kernel_rfl
  i4 := by kernel_rfl
  i5 := by kernel_rfl
  i9 := by kernel_rfl
  i20 := by kernel_rfl
  i37 := by kernel_rfl
  i46 := by kernel_rfl
  i51 := by kernel_rfl
  i53 := by kernel_rfl
  i171 := by kernel_rfl
  i173 := by kernel_rfl
  i212 := by kernel_rfl
  i232 := by kernel_rfl
  i233 := by kernel_rfl
  m17 := by kernel_rfl
  m18 := by kernel_rfl
  m19 := by kernel_rfl }
open Go.RowKit Go.Sort Go.Lib in
theorem Tryd.strconv_FormatInt_10 (n : Int) (h0 : -9223372036854775808 ≤ n) (h1 : n ≤ 9223372036854775807) (w : World) (htab : Lib.TabIs Tryd.prog w "internal/strconv.uint64pow10" .u64 Lib.pow10Tab) :
    Calls Tryd.prog 133 #[.int .i64 n, .int .i64 10] w fun e w' => e = .returned (.string ⟨(Lib.itoa n).toArray⟩) ∧ ∃ k os, w' = grow (w.drewN k) os := Any.strconv_FormatInt_10 Tryd.laysM173 n h0 h1 w htab
def Tryd.lays145_ren : Go.Shelf.Ren := ⟨fun | 145 => 73 | 220 => 119 | 219 => 156 | 217 => 157 | 225 => 175 | 224 => 176 | 267 => 177 | 266 => 178 | 314 => 190 | n => n, fun | 9 => 9 | 4 => 4 | 59 => 121 | 3 => 3 | 5 => 5 | 46 => 169 | 146 => 234 | 51 => 105 | n => n, fun | 1 => 0 | n => n⟩
theorem Tryd.lays145 : Go.Proofs.Lays.n145 Tryd.prog Tryd.lays145_ren := {
  mixed := by kernel_rfl
  f145 := Tryd.func73.trans (congrArg some (by kernel_rfl))
  f217 := Tryd.func157.trans (congrArg some (by kernel_rfl))
  f219 := Tryd.func156.trans (congrArg some (by kernel_rfl))
  f220 := Tryd.func119.trans (congrArg some (by kernel_rfl))
  f224 := Tryd.func176.trans (congrArg some (by kernel_rfl))
  f225 := Tryd.func175.trans (congrArg some (by kernel_rfl))
  f266 := Tryd.func178.trans (congrArg some (by kernel_rfl))
  f267 := Tryd.func177.trans (congrArg some (by kernel_rfl))
  f314 := Tryd.func190.trans (congrArg some (by kernel_rfl))
  t3 := Tryd.underlying3
  a3 := Tryd.isAgg3
  z3 := Tryd.sizeOf3
  v3 := Tryd.zeroValue3
  t4 := Tryd.underlying4
  a4 := Tryd.isAgg4
  z4 := Tryd.sizeOf4
  v4 := Tryd.zeroValue4
  t5 := Tryd.underlying5
  a5 := Tryd.isAgg5
  z5 := Tryd.sizeOf5
  v5 := Tryd.zeroValue5
  t9 := Tryd.underlying9
  a9 := Tryd.isAgg9
  z9 := Tryd.sizeOf9
  v9 := Tryd.zeroValue9
  t46 := Tryd.underlying169
  a46 := Tryd.isAgg169
  z46 := Tryd.sizeOf169
  v46 := Tryd.zeroValue169
  t51 := Tryd.underlying105
  a51 := Tryd.isAgg105
  z51 := Tryd.sizeOf105
  v51 := Tryd.zeroValue105
  t59 := Tryd.underlying121
  a59 := Tryd.isAgg121
  z59 := Tryd.sizeOf121
  v59 := Tryd.zeroValue121
  t146 := Tryd.underlying234
  a146 := Tryd.isAgg234
  z146 := Tryd.sizeOf234
  v146 := Tryd.zeroValue234
  g1 := by kernel_rfl }
open Go.RowKit Go.Lib in
theorem Tryd.strings_Cut (s sep : ByteArray) (m : Int) (w : World) (hs : s.size < 4294967281) (hm : w.cell? ⟨0, 0, none⟩ = some (.int .i64 m)) :
    Calls Tryd.prog 73 #[.string s, .string sep] w fun e w' => e = .returned (.tuple #[.string ⟨(Lib.cut s.data.toList sep.data.toList).1.toArray⟩, .string ⟨(Lib.cut s.data.toList sep.data.toList).2.1.toArray⟩, .bool (Lib.cut s.data.toList sep.data.toList).2.2]) ∧ ∃ n, w' = w.drewN n := Any.strings_Cut Tryd.lays145 s sep m w hs hm
def Tryd.lays146_ren : Go.Shelf.Ren := ⟨fun | 146 => 114 | 221 => 152 | 268 => 171 | 138 => 172 | 143 => 173 | 195 => 187 | 197 => 188 | 218 => 189 | 219 => 156 | 260 => 196 | 217 => 157 | 225 => 175 | 224 => 176 | 267 => 177 | 266 => 178 | 314 => 190 | n => n, fun | 9 => 9 | 31 => 86 | 3 => 3 | 4 => 4 | 0 => 0 | 105 => 232 | 21 => 21 | 5 => 5 | 46 => 169 | 119 => 242 | 139 => 245 | 138 => 244 | 146 => 234 | 51 => 105 | n => n, fun | 1 => 0 | 3 => 2 | 4 => 3 | n => n⟩
theorem Tryd.lays146 : Go.Proofs.Lays.n146 Tryd.prog Tryd.lays146_ren := {
  mixed := by kernel_rfl
  f138 := Tryd.func172.trans (congrArg some (by kernel_rfl))
  f143 := Tryd.func173.trans (congrArg some (by kernel_rfl))
  f146 := Tryd.func114.trans (congrArg some (by kernel_rfl))
  f195 := Tryd.func187.trans (congrArg some (by kernel_rfl))
  f197 := Tryd.func188.trans (congrArg some (by kernel_rfl))
  f217 := Tryd.func157.trans (congrArg some (by kernel_rfl))
  f218 := Tryd.func189.trans (congrArg some (by kernel_rfl))
  f219 := Tryd.func156.trans (congrArg some (by kernel_rfl))
  f221 := Tryd.func152.trans (congrArg some (by kernel_rfl))
  f224 := Tryd.func176.trans (congrArg some (by kernel_rfl))
  f225 := Tryd.func175.trans (congrArg some (by kernel_rfl))
  f260 := Tryd.func196.trans (congrArg some (by kernel_rfl))
  f266 := Tryd.func178.trans (congrArg some (by kernel_rfl))
  f267 := Tryd.func177.trans (congrArg some (by kernel_rfl))
  f268 := Tryd.func171.trans (congrArg some (by kernel_rfl))
  f314 := Tryd.func190.trans (congrArg some (by kernel_rfl))
  t0 := Tryd.underlying0
  a0 := Tryd.isAgg0
  z0 := Tryd.sizeOf0
  v0 := Tryd.zeroValue0
  t3 := Tryd.underlying3
  a3 := Tryd.isAgg3
  z3 := Tryd.sizeOf3
  v3 := Tryd.zeroValue3
  t4 := Tryd.underlying4
  a4 := Tryd.isAgg4
  z4 := Tryd.sizeOf4
  v4 := Tryd.zeroValue4
  t5 := Tryd.underlying5
  a5 := Tryd.isAgg5
  z5 := Tryd.sizeOf5
  v5 := Tryd.zeroValue5
  t9 := Tryd.underlying9
  a9 := Tryd.isAgg9
  z9 := Tryd.sizeOf9
  v9 := Tryd.zeroValue9
  t21 := Tryd.underlying21
  a21 := Tryd.isAgg21
  z21 := Tryd.sizeOf21
  v21 := Tryd.zeroValue21
  t31 := Tryd.underlying86
  a31 := Tryd.isAgg86
  z31 := Tryd.sizeOf86
  v31 := Tryd.zeroValue86
  t46 := Tryd.underlying169
  a46 := Tryd.isAgg169
  z46 := Tryd.sizeOf169
  v46 := Tryd.zeroValue169
  t51 := Tryd.underlying105
  a51 := Tryd.isAgg105
  z51 := Tryd.sizeOf105
  v51 := Tryd.zeroValue105
  t105 := Tryd.underlying232
  a105 := Tryd.isAgg232
  z105 := Tryd.sizeOf232
  v105 := Tryd.zeroValue232
  t119 := Tryd.underlying242
  a119 := Tryd.isAgg242
  z119 := Tryd.sizeOf242
  t138 := Tryd.underlying244
  a138 := Tryd.isAgg244
  z138 := Tryd.sizeOf244
  v138 := Tryd.zeroValue244
  t139 := Tryd.underlying245
  a139 := Tryd.isAgg245
  z139 := Tryd.sizeOf245
  v139 := Tryd.zeroValue245
  t146 := Tryd.underlying234
  a146 := Tryd.isAgg234
  z146 := Tryd.sizeOf234
  v146 := Tryd.zeroValue234
  g1 := by kernel_rfl
  g3 := by kernel_rfl
  g4 := by kernel_rfl }
open Go.RowKit Go.Lib in
theorem Tryd.strings_Split (s sep : ByteArray) (m : Int) (w : World) (hs : s.size < 4294967281) (hm : w.cell? ⟨0, 0, none⟩ = some (.int .i64 m)) (h1 : 1 ≤ sep.size) :
    Calls Tryd.prog 114 #[.string s, .string sep] w fun e w' =>
      e = .returned (.slice (some ⟨w.heap.size, 0, none⟩) (Lib.countB s sep + 1) (Lib.countB s sep + 1)) ∧ w' = w.alloc (.cells ((Lib.splitB sep 0 (Lib.countB s sep) s).map Value.string).toArray 9) := Any.strings_Split Tryd.lays146 (by kernel_rfl) s sep m w hs hm h1
end Go.Proofs

