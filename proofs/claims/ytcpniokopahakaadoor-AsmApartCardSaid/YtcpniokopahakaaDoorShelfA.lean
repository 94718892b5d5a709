/-
  Contracts of the library, laid at this program by the kit's tools.
-/
import Derived.Shelf.Small.Utf8
import Derived.Shelf.Small.Strs
import Derived.Shelf.Strings.Search1
import Derived.Shelf.Strings.Search2
import Derived.Shelf.Strings.Search3
import Derived.Shelf.Strings.Cut
import Derived.Shelf.Strings.Count
import Derived.Shelf.LaysM
import Derived.Shelf.Strings.Shaped
import Derived.Shelf.Strings.Split
import Derived.Shelf.Strings.Runes
import Derived.Shelf.Strings.IndexAny
import Derived.Shelf.Strings.AsciiSet
import Derived.Shelf.Strings.IndexAnyAll
import Derived.Shelf.Unicode.DecodeSlow
import Derived.Shelf.Unicode.DecodeAny
import Derived.Test.YtcpniokopahakaaDoorProg
namespace Go.Proofs
open Go.Shelf
def Tryd.lays144_ren : Go.Shelf.Ren := ⟨fun | 144 => 152 | 143 => 151 | 219 => 177 | 217 => 213 | 225 => 185 | 224 => 184 | 267 => 214 | 266 => 219 | 314 => 220 | n => n, fun | 9 => 9 | 4 => 4 | 3 => 3 | 5 => 5 | 46 => 228 | 146 => 273 | 51 => 218 | n => n, fun | 1 => 2 | n => n⟩
theorem Tryd.lays144 : Go.Proofs.Lays.n144 Tryd.prog Tryd.lays144_ren := {
  mixed := by kernel_rfl
  f143 := Tryd.func151.trans (congrArg some (by kernel_rfl))
  f144 := Tryd.func152.trans (congrArg some (by kernel_rfl))
  f217 := Tryd.func213.trans (congrArg some (by kernel_rfl))
  f219 := Tryd.func177.trans (congrArg some (by kernel_rfl))
  f224 := Tryd.func184.trans (congrArg some (by kernel_rfl))
  f225 := Tryd.func185.trans (congrArg some (by kernel_rfl))
  f266 := Tryd.func219.trans (congrArg some (by kernel_rfl))
  f267 := Tryd.func214.trans (congrArg some (by kernel_rfl))
  f314 := Tryd.func220.trans (congrArg some (by kernel_rfl))
  t3 := Tryd.underlying3
  a3 := Tryd.isAgg3
  z3 := Tryd.sizeOf3
  v3 := Tryd.zeroValue3
  t4 := Tryd.underlying4
  a4 := Tryd.isAgg4
  z4 := Tryd.sizeOf4
  v4 := Tryd.zeroValue4
  t5 := Tryd.underlying5
  a5 := Tryd.isAgg5
  z5 := Tryd.sizeOf5
  v5 := Tryd.zeroValue5
  t9 := Tryd.underlying9
  a9 := Tryd.isAgg9
  z9 := Tryd.sizeOf9
  v9 := Tryd.zeroValue9
  t46 := Tryd.underlying228
  a46 := Tryd.isAgg228
  z46 := Tryd.sizeOf228
  v46 := Tryd.zeroValue228
  t51 := Tryd.underlying218
  a51 := Tryd.isAgg218
  z51 := Tryd.sizeOf218
  v51 := Tryd.zeroValue218
  t146 := Tryd.underlying273
  a146 := Tryd.isAgg273
  z146 := Tryd.sizeOf273
  v146 := Tryd.zeroValue273
  g1 := by kernel_rfl }
open Go.RowKit Go.Lib in
/-- strings.Contains: "Contains reports whether substr is within s.": IT RETURNS 'Lib.contains s substr'; the world is as it was. (LAID: no walk: one application.) -/
theorem Tryd.strings_Contains (s sub : ByteArray) (m : Int) (w : World) (hs : s.size < 4294967281) (hm : w.cell? ⟨2, 0, none⟩ = some (.int .i64 m)) :
    Calls Tryd.prog 152 #[.string s, .string sub] w fun e w' => e = .returned (.bool (Lib.contains s.data.toList sub.data.toList)) ∧ w' = w := Any.strings_Contains Tryd.lays144 s sub m w hs hm
def Tryd.lays146_ren : Go.Shelf.Ren := ⟨fun | 146 => 38 | 221 => 113 | 268 => 149 | 138 => 150 | 143 => 151 | 195 => 178 | 197 => 179 | 218 => 180 | 219 => 177 | 260 => 215 | 217 => 213 | 225 => 185 | 224 => 184 | 267 => 214 | 266 => 219 | 314 => 220 | n => n, fun | 9 => 9 | 31 => 97 | 3 => 3 | 4 => 4 | 0 => 0 | 105 => 242 | 21 => 21 | 5 => 5 | 46 => 228 | 119 => 249 | 139 => 252 | 138 => 251 | 146 => 273 | 51 => 218 | n => n, fun | 1 => 2 | 3 => 0 | 4 => 1 | n => n⟩
theorem Tryd.lays146 : Go.Proofs.Lays.n146 Tryd.prog Tryd.lays146_ren := {
  mixed := by kernel_rfl
  f138 := Tryd.func150.trans (congrArg some (by kernel_rfl))
  f143 := Tryd.func151.trans (congrArg some (by kernel_rfl))
  f146 := Tryd.func38.trans (congrArg some (by kernel_rfl))
  f195 := Tryd.func178.trans (congrArg some (by kernel_rfl))
  f197 := Tryd.func179.trans (congrArg some (by kernel_rfl))
  f217 := Tryd.func213.trans (congrArg some (by kernel_rfl))
  f218 := Tryd.func180.trans (congrArg some (by kernel_rfl))
  f219 := Tryd.func177.trans (congrArg some (by kernel_rfl))
  f221 := Tryd.func113.trans (congrArg some (by kernel_rfl))
  f224 := Tryd.func184.trans (congrArg some (by kernel_rfl))
  f225 := Tryd.func185.trans (congrArg some (by kernel_rfl))
  f260 := Tryd.func215.trans (congrArg some (by kernel_rfl))
  f266 := Tryd.func219.trans (congrArg some (by kernel_rfl))
  f267 := Tryd.func214.trans (congrArg some (by kernel_rfl))
  f268 := Tryd.func149.trans (congrArg some (by kernel_rfl))
  f314 := Tryd.func220.trans (congrArg some (by kernel_rfl))
  t0 := Tryd.underlying0
  a0 := Tryd.isAgg0
  z0 := Tryd.sizeOf0
  v0 := Tryd.zeroValue0
  t3 := Tryd.underlying3
  a3 := Tryd.isAgg3
  z3 := Tryd.sizeOf3
  v3 := Tryd.zeroValue3
  t4 := Tryd.underlying4
  a4 := Tryd.isAgg4
  z4 := Tryd.sizeOf4
  v4 := Tryd.zeroValue4
  t5 := Tryd.underlying5
  a5 := Tryd.isAgg5
  z5 := Tryd.sizeOf5
  v5 := Tryd.zeroValue5
  t9 := Tryd.underlying9
  a9 := Tryd.isAgg9
  z9 := Tryd.sizeOf9
  v9 := Tryd.zeroValue9
  t21 := Tryd.underlying21
  a21 := Tryd.isAgg21
  z21 := Tryd.sizeOf21
  v21 := Tryd.zeroValue21
  t31 := Tryd.underlying97
  a31 := Tryd.isAgg97
  z31 := Tryd.sizeOf97
  v31 := Tryd.zeroValue97
  t46 := Tryd.underlying228
  a46 := Tryd.isAgg228
  z46 := Tryd.sizeOf228
  v46 := Tryd.zeroValue228
  t51 := Tryd.underlying218
  a51 := Tryd.isAgg218
  z51 := Tryd.sizeOf218
  v51 := Tryd.zeroValue218
  t105 := Tryd.underlying242
  a105 := Tryd.isAgg242
  z105 := Tryd.sizeOf242
  v105 := Tryd.zeroValue242
  t119 := Tryd.underlying249
  a119 := Tryd.isAgg249
  z119 := Tryd.sizeOf249
  t138 := Tryd.underlying251
  a138 := Tryd.isAgg251
  z138 := Tryd.sizeOf251
  v138 := Tryd.zeroValue251
  t139 := Tryd.underlying252
  a139 := Tryd.isAgg252
  z139 := Tryd.sizeOf252
  v139 := Tryd.zeroValue252
  t146 := Tryd.underlying273
  a146 := Tryd.isAgg273
  z146 := Tryd.sizeOf273
  v146 := Tryd.zeroValue273
  g1 := by kernel_rfl
  g3 := by kernel_rfl
  g4 := by kernel_rfl }
open Go.RowKit Go.Lib in
/-- strings.Split. (LAID: no walk: one application.) -/
theorem Tryd.strings_Split (s sep : ByteArray) (m : Int) (w : World) (hs : s.size < 4294967281) (hm : w.cell? ⟨2, 0, none⟩ = some (.int .i64 m)) (h1 : 1 ≤ sep.size) :
    Calls Tryd.prog 38 #[.string s, .string sep] w fun e w' =>
      e = .returned (.slice (some ⟨w.heap.size, 0, none⟩) (Lib.countB s sep + 1) (Lib.countB s sep + 1)) ∧ w' = w.alloc (.cells ((Lib.splitB sep 0 (Lib.countB s sep) s).map Value.string).toArray 9) := Any.strings_Split Tryd.lays146 (by kernel_rfl) s sep m w hs hm h1
def Tryd.lays150_ren : Go.Shelf.Ren := ⟨fun | 150 => 41 | 153 => 115 | 152 => 154 | 226 => 155 | 227 => 156 | 228 => 157 | 137 => 182 | 119 => 183 | 224 => 184 | 225 => 185 | 217 => 213 | 266 => 219 | n => n, fun | 9 => 9 | 4 => 4 | 3 => 3 | 5 => 5 | 21 => 21 | 117 => 225 | 116 => 224 | 0 => 0 | 46 => 228 | 124 => 247 | n => n, fun | n => n⟩
theorem Tryd.lays150 : Go.Proofs.Lays.n150 Tryd.prog Tryd.lays150_ren := {
  mixed := by kernel_rfl
  f119 := Tryd.func183.trans (congrArg some (by kernel_rfl))
  f137 := Tryd.func182.trans (congrArg some (by kernel_rfl))
  f150 := Tryd.func41.trans (congrArg some (by kernel_rfl))
  f152 := Tryd.func154.trans (congrArg some (by kernel_rfl))
  f153 := Tryd.func115.trans (congrArg some (by kernel_rfl))
  f217 := Tryd.func213.trans (congrArg some (by kernel_rfl))
  f224 := Tryd.func184.trans (congrArg some (by kernel_rfl))
  f225 := Tryd.func185.trans (congrArg some (by kernel_rfl))
  f226 := Tryd.func155.trans (congrArg some (by kernel_rfl))
  f227 := Tryd.func156.trans (congrArg some (by kernel_rfl))
  f228 := Tryd.func157.trans (congrArg some (by kernel_rfl))
  f266 := Tryd.func219.trans (congrArg some (by kernel_rfl))
  t0 := Tryd.underlying0
  a0 := Tryd.isAgg0
  z0 := Tryd.sizeOf0
  v0 := Tryd.zeroValue0
  t3 := Tryd.underlying3
  a3 := Tryd.isAgg3
  z3 := Tryd.sizeOf3
  v3 := Tryd.zeroValue3
  t4 := Tryd.underlying4
  a4 := Tryd.isAgg4
  z4 := Tryd.sizeOf4
  v4 := Tryd.zeroValue4
  t5 := Tryd.underlying5
  a5 := Tryd.isAgg5
  z5 := Tryd.sizeOf5
  v5 := Tryd.zeroValue5
  t9 := Tryd.underlying9
  a9 := Tryd.isAgg9
  z9 := Tryd.sizeOf9
  v9 := Tryd.zeroValue9
  t21 := Tryd.underlying21
  a21 := Tryd.isAgg21
  z21 := Tryd.sizeOf21
  v21 := Tryd.zeroValue21
  t46 := Tryd.underlying228
  a46 := Tryd.isAgg228
  z46 := Tryd.sizeOf228
  v46 := Tryd.zeroValue228
  t116 := Tryd.underlying224
  a116 := Tryd.isAgg224
  z116 := Tryd.sizeOf224
  t117 := Tryd.underlying225
  a117 := Tryd.isAgg225
  z117 := Tryd.sizeOf225
  v117 := Tryd.zeroValue225
  t124 := Tryd.underlying247
  a124 := Tryd.isAgg247
  z124 := Tryd.sizeOf247
  v124 := Tryd.zeroValue247 }
open Go.RowKit Go.Lib in
theorem Tryd.strings_ContainsAny_laid (s chars : ByteArray) (w : World) (hs : s.size < 4294967281) (hcs : chars.size < 4294967281) (has : ∀ (j : Nat) b, s.data.toList[j]? = some b → b.toNat < 128) (hac : ∀ (j : Nat) b, chars.data.toList[j]? = some b → b.toNat < 128) :
    Calls Tryd.prog 41 #[.string s, .string chars] w fun e w' => e = .returned (.bool (Lib.containsAny s.data.toList chars.data.toList)) ∧ Below w.heap.size w w' := Any.strings_ContainsAny_laid Tryd.lays150 (by kernel_rfl) s chars w hs hcs has hac
end Go.Proofs
