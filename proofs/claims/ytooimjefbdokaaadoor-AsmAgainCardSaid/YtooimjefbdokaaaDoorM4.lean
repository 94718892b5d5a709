/- Texts of this claim, one behind the other. -/
import Derived.Shelf.Strings.Builder1
import Derived.Shelf.Strings.Builder2
import Derived.Shelf.Utf8.RuneCount
import Derived.Shelf.Strconv.Itoa0
import Derived.Shelf.Strconv.Itoa1
import Derived.Shelf.LaysM
import Derived.Shelf.Strconv.Itoa2
import Derived.Shelf.Strconv.Itoa3
import Derived.Shelf.Strconv.Itoa4
import Derived.Shelf.Strconv.ParseIntEmpty
import Derived.Shelf.Strconv.Clone
import Derived.Shelf.Strconv.Lower
import Derived.Shelf.Strconv.ParseUint10Empty
import Derived.Shelf.Strconv.ParseUintEmpty
import Derived.Shelf.Strings.Search1
import Derived.Shelf.Strings.Search2
import Derived.Shelf.Strings.Search3
import Derived.Shelf.Strings.Cut
import Derived.Shelf.Strings.Count
import Derived.Shelf.Strings.Shaped
import Derived.Shelf.Strings.Split
import Derived.Shelf.Strings.SplitShaped
import Derived.Shelf.Unicode.Decode
import Derived.Shelf.Strings.RuneCount
import Derived.Shelf.Strings.Explode
import Derived.Shelf.Unicode.DecodeSlow
import Derived.Shelf.Unicode.DecodeAny
import Derived.Test.YtooimjefbdokaaaDoorProg
import Derived.Test.YtooimjefbdokaaaDoorM2
import Derived.Test.YtooimjefbdokaaaDoorM3
import Derived.Lib.ItoaLen
import Derived.Lib.ParseIntB
import Derived.Lib.Split
import Derived.Lib.Join
import Derived.Shelf.Strings.OnBuilder
import Derived.Shelf.Strings.BuilderF
import Derived.Shelf.Strings.Builder2Cap
import Derived.Shelf.Strconv.SyntaxError
import Derived.Shelf.LaysC
import Derived.Shelf.Strconv.ToError
import Derived.Shelf.Strconv.ParseUint10
import Derived.Shelf.Strconv.ParseUint10Any
import Derived.Shelf.Strconv.ParseInt10
import Derived.Shelf.Strconv.RangeError
import Derived.Shelf.Strconv.ToErrorRange
import Derived.Shelf.Strconv.ParseUint10b64
import Derived.Shelf.Strconv.ParseUint10b32
import Derived.Shelf.Strconv.ParseUint10b16
import Derived.Shelf.Strconv.ParseUint10b8
import Derived.Shelf.Strconv.ParseUint10At
import Derived.Shelf.Strconv.ParseInt10At64
import Derived.Shelf.Strconv.ParseInt10At32
import Derived.Shelf.Strconv.ParseInt10At16
import Derived.Shelf.Strconv.ParseInt10At8
import Derived.Shelf.Strconv.ParseInt10All
import Derived.Shelf.Strconv.ParseIntPublic10
import Derived.Shelf.Strings.BuilderK
import Derived.Test.YtooimjefbdokaaaDoorChecked
import Derived.WalkKit
import Derived.BigCall
/-
  Contracts of the library, laid at this program by the kit's tools.
-/
namespace Go.Proofs
open Go.Shelf
def Tryd.lays146_ren : Go.Shelf.Ren := ⟨fun | 146 => 16 | 221 => 31 | 268 => 42 | 138 => 43 | 143 => 44 | 195 => 53 | 197 => 54 | 218 => 55 | 219 => 45 | 260 => 68 | 217 => 56 | 225 => 57 | 224 => 58 | 267 => 59 | 266 => 69 | 314 => 70 | n => n, fun | 9 => 9 | 31 => 44 | 3 => 3 | 4 => 4 | 0 => 0 | 105 => 105 | 21 => 21 | 5 => 5 | 46 => 109 | 119 => 127 | 139 => 130 | 138 => 129 | 146 => 118 | 51 => 114 | n => n, fun | 1 => 0 | 3 => 2 | 4 => 3 | n => n⟩
theorem Tryd.lays146 : Go.Proofs.Lays.n146 Tryd.prog Tryd.lays146_ren := {
  mixed := by kernel_rfl
  f138 := Tryd.func43.trans (congrArg some (by kernel_rfl))
  f143 := Tryd.func44.trans (congrArg some (by kernel_rfl))
  f146 := Tryd.func16.trans (congrArg some (by kernel_rfl))
  f195 := Tryd.func53.trans (congrArg some (by kernel_rfl))
  f197 := Tryd.func54.trans (congrArg some (by kernel_rfl))
  f217 := Tryd.func56.trans (congrArg some (by kernel_rfl))
  f218 := Tryd.func55.trans (congrArg some (by kernel_rfl))
  f219 := Tryd.func45.trans (congrArg some (by kernel_rfl))
  f221 := Tryd.func31.trans (congrArg some (by kernel_rfl))
  f224 := Tryd.func58.trans (congrArg some (by kernel_rfl))
  f225 := Tryd.func57.trans (congrArg some (by kernel_rfl))
  f260 := Tryd.func68.trans (congrArg some (by kernel_rfl))
  f266 := Tryd.func69.trans (congrArg some (by kernel_rfl))
  f267 := Tryd.func59.trans (congrArg some (by kernel_rfl))
  f268 := Tryd.func42.trans (congrArg some (by kernel_rfl))
  f314 := Tryd.func70.trans (congrArg some (by kernel_rfl))
  t0 := Tryd.underlying0
  a0 := Tryd.isAgg0
  z0 := Tryd.sizeOf0
  v0 := Tryd.zeroValue0
  t3 := Tryd.underlying3
  a3 := Tryd.isAgg3
  z3 := Tryd.sizeOf3
  v3 := Tryd.zeroValue3
  t4 := Tryd.underlying4
  a4 := Tryd.isAgg4
  z4 := Tryd.sizeOf4
  v4 := Tryd.zeroValue4
  t5 := Tryd.underlying5
  a5 := Tryd.isAgg5
  z5 := Tryd.sizeOf5
  v5 := Tryd.zeroValue5
  t9 := Tryd.underlying9
  a9 := Tryd.isAgg9
  z9 := Tryd.sizeOf9
  v9 := Tryd.zeroValue9
  t21 := Tryd.underlying21
  a21 := Tryd.isAgg21
  z21 := Tryd.sizeOf21
  v21 := Tryd.zeroValue21
  t31 := Tryd.underlying44
  a31 := Tryd.isAgg44
  z31 := Tryd.sizeOf44
  v31 := Tryd.zeroValue44
  t46 := Tryd.underlying109
  a46 := Tryd.isAgg109
  z46 := Tryd.sizeOf109
  v46 := Tryd.zeroValue109
  t51 := Tryd.underlying114
  a51 := Tryd.isAgg114
  z51 := Tryd.sizeOf114
  v51 := Tryd.zeroValue114
  t105 := Tryd.underlying105
  a105 := Tryd.isAgg105
  z105 := Tryd.sizeOf105
  v105 := Tryd.zeroValue105
  t119 := Tryd.underlying127
  a119 := Tryd.isAgg127
  z119 := Tryd.sizeOf127
  t138 := Tryd.underlying129
  a138 := Tryd.isAgg129
  z138 := Tryd.sizeOf129
  v138 := Tryd.zeroValue129
  t139 := Tryd.underlying130
  a139 := Tryd.isAgg130
  z139 := Tryd.sizeOf130
  v139 := Tryd.zeroValue130
  t146 := Tryd.underlying118
  a146 := Tryd.isAgg118
  z146 := Tryd.sizeOf118
  v146 := Tryd.zeroValue118
  g1 := by kernel_rfl
  g3 := by kernel_rfl
  g4 := by kernel_rfl }
open Go.RowKit Go.Lib in
/-- strings.Split. (LAID: no walk: one application.) -/
theorem Tryd.strings_Split (s sep : ByteArray) (m : Int) (w : World) (hs : s.size < 4294967281) (hm : w.cell? ⟨0, 0, none⟩ = some (.int .i64 m)) (h1 : 1 ≤ sep.size) :
    Calls Tryd.prog 16 #[.string s, .string sep] w fun e w' =>
      e = .returned (.slice (some ⟨w.heap.size, 0, none⟩) (Lib.countB s sep + 1) (Lib.countB s sep + 1)) ∧ w' = w.alloc (.cells ((Lib.splitB sep 0 (Lib.countB s sep) s).map Value.string).toArray 9) := Any.strings_Split Tryd.lays146 (by kernel_rfl) s sep m w hs hm h1
end Go.Proofs
/- The names of instructions: the plain side. -/
set_option maxRecDepth 100000
set_option maxHeartbeats 4000000
set_option linter.unusedVariables false
set_option linter.unusedSimpArgs false
namespace Go.Proofs.YtooimjefbdokaaaDoor.Asm
open Go Go.Proofs.YtooimjefbdokaaaDoor.Eng Go.RowKit
def rowsL : List (Nat × List UInt8 × List UInt8) := [(0, [], [117, 110, 114, 101, 97, 99, 104, 97, 98, 108, 101, 32, 110, 111, 112, 32, 98, 108, 111, 99, 107, 32, 108, 111, 111, 112, 32, 105, 102, 32, 101, 108, 115, 101]), (11, [], [101, 110, 100, 32, 98, 114, 32, 98, 114, 95, 105, 102, 32, 98, 114, 95, 116, 97, 98, 108, 101, 32, 114, 101, 116, 117, 114, 110, 32, 99, 97, 108, 108, 32, 99, 97, 108, 108, 95, 105, 110, 100, 105, 114, 101, 99, 116]), (26, [], [100, 114, 111, 112, 32, 115, 101, 108, 101, 99, 116]), (32, [], [108, 111, 99, 97, 108, 46, 103, 101, 116, 32, 108, 111, 99, 97, 108, 46, 115, 101, 116, 32, 108, 111, 99, 97, 108, 46, 116, 101, 101, 32, 103, 108, 111, 98, 97, 108, 46, 103, 101, 116, 32, 103, 108, 111, 98, 97, 108, 46, 115, 101, 116]), (40, [], [105, 51, 50, 46, 108, 111, 97, 100, 32, 105, 54, 52, 46, 108, 111, 97, 100]), (44, [105, 51, 50, 46], [108, 111, 97, 100, 56, 95, 115, 32, 108, 111, 97, 100, 56, 95, 117, 32, 108, 111, 97, 100, 49, 54, 95, 115, 32, 108, 111, 97, 100, 49, 54, 95, 117]), (48, [105, 54, 52, 46], [108, 111, 97, 100, 56, 95, 115, 32, 108, 111, 97, 100, 56, 95, 117, 32, 108, 111, 97, 100, 49, 54, 95, 115, 32, 108, 111, 97, 100, 49, 54, 95, 117, 32, 108, 111, 97, 100, 51, 50, 95, 115, 32, 108, 111, 97, 100, 51, 50, 95, 117]), (54, [], [105, 51, 50, 46, 115, 116, 111, 114, 101, 32, 105, 54, 52, 46, 115, 116, 111, 114, 101]), (58, [], [105, 51, 50, 46, 115, 116, 111, 114, 101, 56, 32, 105, 51, 50, 46, 115, 116, 111, 114, 101, 49, 54, 32, 105, 54, 52, 46, 115, 116, 111, 114, 101, 56, 32, 105, 54, 52, 46, 115, 116, 111, 114, 101, 49, 54, 32, 105, 54, 52, 46, 115, 116, 111, 114, 101, 51, 50]), (63, [], [109, 101, 109, 111, 114, 121, 46, 115, 105, 122, 101, 32, 109, 101, 109, 111, 114, 121, 46, 103, 114, 111, 119, 32, 105, 51, 50, 46, 99, 111, 110, 115, 116, 32, 105, 54, 52, 46, 99, 111, 110, 115, 116]), (69, [105, 51, 50, 46], [101, 113, 122, 32, 101, 113, 32, 110, 101, 32, 108, 116, 95, 115, 32, 108, 116, 95, 117, 32, 103, 116, 95, 115, 32, 103, 116, 95, 117, 32, 108, 101, 95, 115, 32, 108, 101, 95, 117, 32, 103, 101, 95, 115, 32, 103, 101, 95, 117]), (80, [105, 54, 52, 46], [101, 113, 122, 32, 101, 113, 32, 110, 101, 32, 108, 116, 95, 115, 32, 108, 116, 95, 117, 32, 103, 116, 95, 115, 32, 103, 116, 95, 117, 32, 108, 101, 95, 115, 32, 108, 101, 95, 117, 32, 103, 101, 95, 115, 32, 103, 101, 95, 117]), (103, [105, 51, 50, 46], [99, 108, 122, 32, 99, 116, 122, 32, 112, 111, 112, 99, 110, 116, 32, 97, 100, 100, 32, 115, 117, 98, 32, 109, 117, 108, 32, 100, 105, 118, 95, 115, 32, 100, 105, 118, 95, 117, 32, 114, 101, 109, 95, 115, 32, 114, 101, 109, 95, 117, 32, 97, 110, 100, 32, 111, 114, 32, 120, 111, 114, 32, 115, 104, 108, 32, 115, 104, 114, 95, 115, 32, 115, 104, 114, 95, 117, 32, 114, 111, 116, 108, 32, 114, 111, 116, 114]), (121, [105, 54, 52, 46], [99, 108, 122, 32, 99, 116, 122, 32, 112, 111, 112, 99, 110, 116, 32, 97, 100, 100, 32, 115, 117, 98, 32, 109, 117, 108, 32, 100, 105, 118, 95, 115, 32, 100, 105, 118, 95, 117, 32, 114, 101, 109, 95, 115, 32, 114, 101, 109, 95, 117, 32, 97, 110, 100, 32, 111, 114, 32, 120, 111, 114, 32, 115, 104, 108, 32, 115, 104, 114, 95, 115, 32, 115, 104, 114, 95, 117, 32, 114, 111, 116, 108, 32, 114, 111, 116, 114]), (167, [], [105, 51, 50, 46, 119, 114, 97, 112, 95, 105, 54, 52]), (172, [], [105, 54, 52, 46, 101, 120, 116, 101, 110, 100, 95, 105, 51, 50, 95, 115, 32, 105, 54, 52, 46, 101, 120, 116, 101, 110, 100, 95, 105, 51, 50, 95, 117]), (192, [], [105, 51, 50, 46, 101, 120, 116, 101, 110, 100, 56, 95, 115, 32, 105, 51, 50, 46, 101, 120, 116, 101, 110, 100, 49, 54, 95, 115, 32, 105, 54, 52, 46, 101, 120, 116, 101, 110, 100, 56, 95, 115, 32, 105, 54, 52, 46, 101, 120, 116, 101, 110, 100, 49, 54, 95, 115, 32, 105, 54, 52, 46, 101, 120, 116, 101, 110, 100, 51, 50, 95, 115])]
/-- A text in pieces, at each blank. -/
def cutB : List UInt8 → List UInt8 → List (List UInt8)
  | acc, [] => [acc]
  | acc, c :: r => if c = 32 then acc :: cutB [] r else cutB (acc ++ [c]) r
def piecesL (s : List UInt8) : List (List UInt8) := cutB [] s
def nameIn : List (Nat × List UInt8 × List UInt8) → Nat → List UInt8 × Bool
  | [], _ => ([], false)
  | r :: q, n => if r.1 ≤ n ∧ n - r.1 < (piecesL r.2.2).length then (r.2.1 ++ (piecesL r.2.2).getD (n - r.1) [], true) else nameIn q n
def nameR (n : Nat) : List UInt8 × Bool := nameIn rowsL n
theorem rowsL_ok : ∀ r ∈ rowsL, r.1 ≤ 200 ∧ r.2.1.length ≤ 10 ∧ r.2.2.length ≤ 120 ∧ (piecesL r.2.2).length ≤ 20 := by decide +kernel
theorem pieces_len : ∀ r ∈ rowsL, ∀ y ∈ piecesL r.2.2, y.length ≤ 40 := by decide +kernel
theorem nameIn_hit {r : Nat × List UInt8 × List UInt8} {q : List (Nat × List UInt8 × List UInt8)} {n : Nat} {x : List UInt8} (h : r.1 ≤ n) (hx : (piecesL r.2.2)[n - r.1]? = some x) : nameIn (r :: q) n = (r.2.1 ++ x, true) := by
  have hl := (List.getElem?_eq_some_iff.1 hx).1
  rw [nameIn, if_pos ⟨h, hl⟩, List.getD_eq_getElem?_getD, hx]; rfl
theorem nameIn_miss {r : Nat × List UInt8 × List UInt8} {q : List (Nat × List UInt8 × List UInt8)} {n : Nat} (h : ¬ (r.1 ≤ n ∧ n - r.1 < (piecesL r.2.2).length)) : nameIn (r :: q) n = nameIn q n := by
  rw [nameIn, if_neg h]
open Go in
theorem split_is : ∀ r ∈ rowsL, Lib.splitB (bs [32]) 0 (Lib.countB (bs r.2.2) (bs [32])) (bs r.2.2) = (piecesL r.2.2).map bs := by decide +kernel
open Go in
theorem count_is : ∀ r ∈ rowsL, Lib.countB (bs r.2.2) (bs [32]) + 1 = (piecesL r.2.2).length := by decide +kernel
end Go.Proofs.YtooimjefbdokaaaDoor.Asm
/- The text of a body: lines, words and numbers: the plain side. -/
set_option maxRecDepth 100000
set_option maxHeartbeats 4000000
set_option linter.unusedVariables false
set_option linter.unusedSimpArgs false
namespace Go.Proofs.YtooimjefbdokaaaDoor.Asm
open Go Go.Proofs.YtooimjefbdokaaaDoor.Eng Ins Nest Leb
abbrev Bs := List UInt8
/-- A text in pieces, at each c. -/
def cutC (c : UInt8) : Bs → Bs → List Bs
  | acc, [] => [acc]
  | acc, x :: r => if x = c then acc :: cutC c [] r else cutC c (acc ++ [x]) r
theorem cutC_at (c : UInt8) (s r : Bs) : ∀ acc, cutC c acc (s ++ c :: r) = cutC c acc s ++ cutC c [] r := by
  induction s with
  | nil => intro acc; rw [List.nil_append]; show (if c = c then acc :: cutC c [] r else cutC c (acc ++ [c]) r) = _; rw [if_pos rfl]; rfl
  | cons x s ih =>
    intro acc
    rw [List.cons_append, cutC, cutC]
    split
    · rw [ih]; rfl
    · rw [ih]
theorem cutC_no (c : UInt8) (s : Bs) : ∀ acc, c ∉ s → cutC c acc s = [acc ++ s] := by
  induction s with
  | nil => intro acc _; rw [cutC, List.append_nil]
  | cons x s ih =>
    intro acc h
    rw [List.mem_cons, not_or] at h
    rw [cutC, if_neg (fun e => h.1 e.symm), ih _ h.2, List.append_assoc]; rfl
theorem cutC_ne (c : UInt8) (s : Bs) : ∀ acc, cutC c acc s ≠ [] := by
  induction s with
  | nil => intro acc; rw [cutC]; simp
  | cons x s ih => intro acc; rw [cutC]; split; · simp
                   · exact ih _
/-- Where c stands first. -/
theorem first_of (c : UInt8) : ∀ s : Bs, (Lib.index s [c] = -1 ∧ c ∉ s) ∨ ∃ a r, s = a ++ c :: r ∧ c ∉ a ∧ Lib.index s [c] = a.length
  | [] => .inl ⟨rfl, by simp⟩
  | x :: s => by
    have hp : List.isPrefixOf [c] (x :: s) = (c == x) := by simp [List.isPrefixOf]
    by_cases hx : c = x
    · subst hx
      exact .inr ⟨[], s, rfl, by simp, by rw [Lib.index, hp]; simp⟩
    · have hb : (c == x) = false := by simpa using hx
      rcases first_of c s with ⟨h1, h2⟩ | ⟨a, r, h1, h2, h3⟩
      · refine .inl ⟨?_, by rw [List.mem_cons, not_or]; exact ⟨hx, h2⟩⟩
        rw [Lib.index, hp, hb, h1]; rfl
      · refine .inr ⟨x :: a, r, by rw [h1]; rfl, by rw [List.mem_cons, not_or]; exact ⟨hx, h2⟩, ?_⟩
        rw [Lib.index, hp, hb, h3]
        have : ((a.length : Int) == -1) = false := by rw [beq_eq_false_iff_ne]; omega
        simp [this]
theorem splitK_is (c : UInt8) : ∀ (n : Nat) (s : Bs), s.length ≤ n → Lib.splitK [c] 0 (Lib.count s [c]) s = cutC c [] s := by
  intro n
  induction n with
  | zero =>
    intro s h
    obtain rfl : s = [] := List.length_eq_zero_iff.1 (by omega)
    rfl
  | succ n ih =>
    intro s h
    rcases first_of c s with ⟨h1, h2⟩ | ⟨a, r, h1, h2, h3⟩
    · rw [Lib.count_miss h1, Lib.splitK, cutC_no c s [] h2]; rfl
    · have hd : s.drop (a.length + [c].length) = r := by
        rw [h1, List.drop_append]; simp
      have ht : s.take a.length = a := by rw [h1]; simp
      rw [Lib.count_hit (by simp) h3, hd, Nat.add_comm, Lib.splitK, if_neg (by rw [h3]; simp), h3, Int.toNat_natCast, Nat.add_zero, ht, hd, ih r (by have := congrArg List.length h1; simp at this; omega)]
      conv => rhs; rw [h1, cutC_at, cutC_no c a [] h2]
      rfl
theorem bs_data (x : ByteArray) : bs x.data.toList = x := by cases x; rfl
theorem bs_toL (s : Bs) : (bs s).data.toList = s := by unfold bs; simp
theorem splitB_is (c : UInt8) (s : Bs) : Lib.splitB (bs [c]) 0 (Lib.countB (bs s) (bs [c])) (bs s) = (cutC c [] s).map bs := by
  have h := Lib.splitB_data (bs [c]) 0 (Lib.countB (bs s) (bs [c])) (bs s)
  rw [bs_toL, bs_toL] at h
  have h2 : Lib.countB (bs s) (bs [c]) = Lib.count s [c] := by unfold Lib.countB; rw [bs_toL, bs_toL]
  rw [h2] at h
  rw [splitK_is c s.length s (Nat.le_refl _)] at h
  rw [h2, ← h, List.map_map]
  conv => lhs; rw [← List.map_id (Lib.splitB (bs [c]) 0 (Lib.count s [c]) (bs s))]
  exact List.map_congr_left fun x _ => (bs_data x).symm
theorem countC (c : UInt8) (s : Bs) : Lib.countB (bs s) (bs [c]) + 1 = (cutC c [] s).length := by
  have h := Lib.splitB_all (bs [c]) (by rw [bs_size]; exact Nat.le_refl 1) 0 _ (bs s) rfl
  rw [splitB_is, List.length_map] at h
  exact h.symm
theorem cutC_len (c : UInt8) (s : Bs) : ∀ acc, (cutC c acc s).length ≤ s.length + 1 := by
  induction s with
  | nil => intro acc; exact Nat.le_refl _
  | cons x s ih =>
    intro acc
    rw [cutC]
    split
    · rw [List.length_cons, List.length_cons]; exact Nat.succ_le_succ (ih _)
    · rw [List.length_cons]; exact Nat.le_succ_of_le (ih _)
theorem cutC_mem (c : UInt8) (s : Bs) : ∀ acc, ∀ x ∈ cutC c acc s, x.length ≤ acc.length + s.length := by
  induction s with
  | nil => intro acc x hx; rw [cutC, List.mem_singleton] at hx; rw [hx]; exact Nat.le_refl _
  | cons y s ih =>
    intro acc x hx
    rw [cutC] at hx
    split at hx
    · rcases List.mem_cons.1 hx with h | h
      · rw [h]; omega
      · have := ih [] x h; simp at this ⊢; omega
    · have := ih _ x hx; simp at this ⊢; omega
theorem cutB_is (s : Bs) : ∀ acc, cutB acc s = cutC 32 acc s := by
  induction s with
  | nil => intro acc; rfl
  | cons x s ih => intro acc; rw [cutB, cutC, ih, ih]
/-! ## Words -/
/-- What stands ahead of a remark. -/
def preS (s : Bs) : Bs := (Lib.cut s [59]).1
theorem preS_no {s : Bs} (h : (59 : UInt8) ∉ s) : preS s = s := by
  rcases first_of 59 s with ⟨h1, h2⟩ | ⟨a, r, h1, h2, h3⟩
  · unfold preS Lib.cut; rw [h1]; rfl
  · exact absurd (by rw [h1]; simp) h
theorem preS_at {a r : Bs} (h : (59 : UInt8) ∉ a) : preS (a ++ 59 :: r) = a := by
  rcases first_of 59 (a ++ 59 :: r) with ⟨h1, h2⟩ | ⟨a', r', h1, h2, h3⟩
  · exact absurd (by simp) h2
  · have hl : a'.length = a.length := by
      rcases Nat.lt_trichotomy a'.length a.length with hlt | he | hgt
      · have e1 : (a ++ 59 :: r)[a'.length]? = some 59 := by rw [h1]; simp
        rw [List.getElem?_append_left hlt] at e1
        exact absurd (List.mem_of_getElem? e1) h
      · exact he
      · have e1 : (a' ++ 59 :: r')[a.length]? = some 59 := by rw [← h1]; simp
        rw [List.getElem?_append_left hgt] at e1
        exact absurd (List.mem_of_getElem? e1) h2
    unfold preS Lib.cut
    rw [h3, if_pos (by omega)]
    simp [hl]
theorem preS_len (s : Bs) : (preS s).length ≤ s.length := by
  unfold preS Lib.cut
  split
  · simp; omega
  · exact Nat.le_refl _
def full (l : List Bs) : List Bs := l.filter fun x => !x.isEmpty
theorem full_app (a b : List Bs) : full (a ++ b) = full a ++ full b := List.filter_append ..
theorem full_id {l : List Bs} (h : ∀ x ∈ l, x ≠ []) : full l = l := by
  unfold full
  rw [List.filter_eq_self]
  intro x hx
  have := h x hx
  cases x with
  | nil => exact absurd rfl this
  | cons a r => rfl
def wordsOf (s : Bs) : List Bs := full (cutC 32 [] (preS s))
theorem wordsOf_sp (s : Bs) : wordsOf (s ++ [32, 32, 32]) = wordsOf s := by
  unfold wordsOf
  rcases first_of 59 s with ⟨_, h2⟩ | ⟨a, r, h1, h2, _⟩
  · rw [preS_no h2, preS_no (by simp [h2]), cutC_at, full_app]
    rw [show full (cutC 32 [] [32, 32]) = [] from rfl, List.append_nil]
  · rw [h1, preS_at h2, List.append_assoc, List.cons_append, preS_at h2]
theorem wordsOf_join : ∀ ws : List Bs, (∀ x ∈ ws, x ≠ [] ∧ (32 : UInt8) ∉ x ∧ (59 : UInt8) ∉ x) → wordsOf (Lib.join ws [32]) = ws := by
  intro ws h
  cases ws with
  | nil => rfl
  | cons x r =>
    have key : ∀ (r : List Bs) (x : Bs), (∀ y ∈ x :: r, y ≠ [] ∧ (32 : UInt8) ∉ y ∧ (59 : UInt8) ∉ y) → (59 : UInt8) ∉ Lib.join (x :: r) [32] ∧ cutC 32 [] (Lib.join (x :: r) [32]) = x :: r := by
      intro r
      induction r with
      | nil =>
        intro x h
        have := h x (List.mem_cons_self ..)
        rw [Lib.join_one]
        exact ⟨this.2.2, by rw [cutC_no _ _ _ this.2.1]; rfl⟩
      | cons y r ih =>
        intro x h
        have hx := h x (List.mem_cons_self ..)
        obtain ⟨i1, i2⟩ := ih y fun z hz => h z (List.mem_cons_of_mem _ hz)
        have e : Lib.join (x :: y :: r) [32] = x ++ 32 :: Lib.join (y :: r) [32] := by
          rw [Lib.join_cons, Lib.join_cons]; simp [Lib.joinTail]
        rw [e]
        refine ⟨?_, ?_⟩
        · rw [List.mem_append, List.mem_cons, not_or, not_or]
          exact ⟨hx.2.2, by decide, i1⟩
        · rw [cutC_at, cutC_no _ _ _ hx.2.1, i2]; rfl
    obtain ⟨k1, k2⟩ := key r x h
    unfold wordsOf
    rw [preS_no k1, k2, full_id fun y hy => (h y hy).1]
/-- The lines of a text that say something, as words. -/
def allW (s : Bs) : List (List Bs) := ((cutC 10 [] s).map wordsOf).filter fun l => !l.isEmpty
def remarkA : Bs := [32, 32, 59, 32, 97, 32, 114, 101, 109, 97, 114, 107, 10, 10]
def remarkB : Bs := [32, 32, 32, 10, 59, 101, 110, 100]
theorem cutC_last (c : UInt8) (t : Bs) (ht : c ∉ t) (s : Bs) : ∀ acc, ∃ i e, cutC c acc s = i ++ [e] ∧ cutC c acc (s ++ t) = i ++ [e ++ t] := by
  induction s with
  | nil => intro acc; exact ⟨[], acc, rfl, by rw [List.nil_append, cutC_no _ _ _ ht]; rfl⟩
  | cons x s ih =>
    intro acc
    rw [List.cons_append, cutC, cutC]
    split
    · obtain ⟨i, e, h1, h2⟩ := ih []
      exact ⟨acc :: i, e, by rw [h1]; rfl, by rw [h2]; rfl⟩
    · exact ih _
theorem allW_two (s : Bs) : allW (remarkA ++ s ++ remarkB) = allW s := by
  have e : remarkA ++ s ++ remarkB = [32, 32, 59, 32, 97, 32, 114, 101, 109, 97, 114, 107] ++ 10 :: ([] ++ 10 :: ((s ++ [32, 32, 32]) ++ 10 :: [59, 101, 110, 100])) := by
    unfold remarkA remarkB; simp
  unfold allW
  rw [e, cutC_at, cutC_at, cutC_at]
  obtain ⟨i, x, h1, h2⟩ := cutC_last 10 [32, 32, 32] (by decide) s []
  rw [h1, h2]
  simp only [List.map_append, List.filter_append, List.map_cons, List.map_nil, wordsOf_sp]
  rw [show List.filter (fun l => !l.isEmpty) (List.map wordsOf (cutC 10 [] [32, 32, 59, 32, 97, 32, 114, 101, 109, 97, 114, 107])) = [] by decide +kernel,
    show List.filter (fun l => !l.isEmpty) (List.map wordsOf (cutC 10 [] [])) = [] by decide +kernel,
    show List.filter (fun l => !l.isEmpty) (List.map wordsOf (cutC 10 [] [59, 101, 110, 100])) = [] by decide +kernel]
  simp
/-! ## Numbers -/
theorem dec_bytes : ∀ (u : Nat), ∀ c ∈ Lib.decDigits u, 48 ≤ c.toNat ∧ c.toNat ≤ 57 := by
  intro u
  induction u using Nat.strongRecOn with
  | ind u ih =>
    intro c hc
    rw [Lib.decDigits] at hc
    split at hc
    · rename_i h
      rw [List.mem_singleton] at hc
      subst hc
      rw [byte_toNat (by omega)]; omega
    · rename_i h
      rcases List.mem_append.1 hc with hc | hc
      · exact ih (u / 10) (by omega) c hc
      · rw [List.mem_singleton] at hc
        subst hc
        rw [byte_toNat (by omega)]; omega
theorem dec_ne (u : Nat) : Lib.decDigits u ≠ [] := by
  rw [Lib.decDigits]; split <;> simp
theorem pum_snoc (M : Nat) : ∀ (l : Bs) (acc v : Nat) (c : UInt8), Lib.parseUintM M acc l = .ok v → 48 ≤ c.toNat → c.toNat ≤ 57 → v < 1844674407370955162 → v * 10 + (c.toNat - 48) ≤ M → Lib.parseUintM M acc (l ++ [c]) = .ok (v * 10 + (c.toNat - 48))
  | [], acc, v, c, h, h1, h2, h3, h4 => by
    rw [Lib.parseUintM] at h
    obtain rfl : acc = v := by injection h
    rw [List.nil_append, Lib.parseUintM, if_pos ⟨h1, h2⟩, if_neg (by omega), if_neg (by omega), Lib.parseUintM]
  | d :: l, acc, v, c, h, h1, h2, h3, h4 => by
    rw [Lib.parseUintM] at h
    rw [List.cons_append, Lib.parseUintM]
    split at h
    · rename_i hd
      rw [if_pos hd]
      split at h
      · cases h
      · rename_i h5
        rw [if_neg h5]
        split at h
        · cases h
        · rename_i h6
          rw [if_neg h6]
          exact pum_snoc M l _ v c h h1 h2 h3 h4
    · cases h
theorem pum_dec (M : Nat) (hM : M ≤ 18446744073709551615) : ∀ u, u ≤ M → Lib.parseUintM M 0 (Lib.decDigits u) = .ok u := by
  intro u
  induction u using Nat.strongRecOn with
  | ind u ih =>
    intro hu
    rw [Lib.decDigits]
    split
    · rename_i h
      have := pum_snoc M [] 0 0 (UInt8.ofNat (48 + u)) rfl (by rw [byte_toNat (by omega)]; omega) (by rw [byte_toNat (by omega)]; omega) (by omega) (by rw [byte_toNat (by omega)]; omega)
      rw [byte_toNat (by omega)] at this
      rw [List.nil_append] at this
      rw [this]; congr 1; omega
    · rename_i h
      have := pum_snoc M _ 0 (u / 10) (UInt8.ofNat (48 + u % 10)) (ih (u / 10) (by omega) (by omega)) (by rw [byte_toNat (by omega)]; omega) (by rw [byte_toNat (by omega)]; omega) (by omega) (by rw [byte_toNat (by omega)]; omega)
      rw [byte_toNat (by omega)] at this
      rw [this]; congr 1; omega
theorem dec_head {u : Nat} {c : UInt8} {r : Bs} (h : Lib.decDigits u = c :: r) : 48 ≤ c.toNat ∧ c.toNat ≤ 57 := dec_bytes u c (by rw [h]; exact List.mem_cons_self ..)
theorem parse_itoa {n : Int} (h : -9223372036854775808 ≤ n ∧ n ≤ 9223372036854775807) : Lib.parseIntB 64 (Lib.itoa n) = .ok n := by
  unfold Lib.itoa
  have hM : (2 : Nat) ^ 64 - 1 = 18446744073709551615 := by decide
  have hM2 : (2 : Nat) ^ (64 - 1) = 9223372036854775808 := by decide
  split
  · rename_i hn
    have h1 := pum_dec 18446744073709551615 (Nat.le_refl _) n.natAbs (by omega)
    unfold Lib.parseIntB
    simp only [show ((45 : UInt8).toNat = 43 ∨ (45 : UInt8).toNat = 45) = True from by simp, if_true]
    unfold Lib.parseUintB
    rw [if_neg (dec_ne _), hM, h1]
    simp only [hM2]
    rw [if_neg (fun h => h.1 (by decide)), if_neg (by omega), if_pos (by decide)]
    congr 1; omega
  · rename_i hn
    have h1 := pum_dec 18446744073709551615 (Nat.le_refl _) n.toNat (by omega)
    rcases hd : Lib.decDigits n.toNat with _ | ⟨c, r⟩
    · exact absurd hd (dec_ne _)
    · have hc := dec_head hd
      unfold Lib.parseIntB
      rw [hd] at h1
      simp only
      rw [if_neg (by omega)]
      unfold Lib.parseUintB
      rw [if_neg (by simp), hM, h1]
      simp only [hM2]
      rw [if_neg (by omega), if_neg (by omega), if_neg (by omega)]
      congr 1; omega
theorem parse_range {s : Bs} {v : Int} (h : Lib.parseIntB 64 s = .ok v) : -9223372036854775808 ≤ v ∧ v ≤ 9223372036854775807 := by
  have hM2 : (2 : Nat) ^ (64 - 1) = 9223372036854775808 := by decide
  unfold Lib.parseIntB at h
  split at h
  · cases h
  · rename_i c r
    simp only at h
    split at h
    · cases h
    · cases h
    · rename_i u hu
      rw [hM2] at h
      split at h
      · cases h
      · rename_i h1
        split at h
        · cases h
        · rename_i h2
          injection h with h
          split at h <;> omega
theorem itoa_inj {n m : Int} (hn : -9223372036854775808 ≤ n ∧ n ≤ 9223372036854775807) (hm : -9223372036854775808 ≤ m ∧ m ≤ 9223372036854775807) (h : Lib.itoa n = Lib.itoa m) : n = m := by
  have h1 := parse_itoa hn
  rw [h, parse_itoa hm] at h1
  injection h1 with h1; exact h1.symm
theorem itoa_bytes {n : Int} : ∀ c ∈ Lib.itoa n, c = 45 ∨ (48 ≤ c.toNat ∧ c.toNat ≤ 57) := by
  intro c hc
  unfold Lib.itoa at hc
  split at hc
  · rcases List.mem_cons.1 hc with h | h
    · exact .inl h
    · exact .inr (dec_bytes _ c h)
  · exact .inr (dec_bytes _ c hc)
theorem itoa_ne (n : Int) : Lib.itoa n ≠ [] := by
  unfold Lib.itoa; split
  · simp
  · exact dec_ne _
/-- A word: no blank, no remark, no end of a line, and not empty. -/
def okW (x : Bs) : Prop := x ≠ [] ∧ (32 : UInt8) ∉ x ∧ (59 : UInt8) ∉ x ∧ (10 : UInt8) ∉ x
instance (x : Bs) : Decidable (okW x) := by unfold okW; infer_instance
theorem okW_itoa (n : Int) : okW (Lib.itoa n) := by
  refine ⟨itoa_ne n, fun h => ?_, fun h => ?_, fun h => ?_⟩
  all_goals
    rcases itoa_bytes _ h with e | e
    · exact absurd e (by decide)
    · exact absurd e (by decide)
end Go.Proofs.YtooimjefbdokaaaDoor.Asm
/- Names of instructions are apart. -/
set_option maxRecDepth 100000
set_option maxHeartbeats 4000000
set_option linter.unusedVariables false
set_option linter.unusedSimpArgs false
namespace Go.Proofs.YtooimjefbdokaaaDoor.Asm
open Go Go.Proofs.YtooimjefbdokaaaDoor.Eng
def keysL : List Nat := [451450901263426116561038437, 24014704, 1522237662059, 6114209648, 92518, 5996573541, 0, 0, 0, 0, 0, 23424612, 90738, 1522337278310, 25540581390226189413, 407255047828078, 5962296428, 28156148814280646654274839077748, 0, 0, 0, 0, 0, 0, 0, 0, 5980188528, 408354424185716, 0, 0, 0, 0, 6722641208908444034420, 6722641208908444820852, 6722641208908444886373, 1697329841794766453826932, 1697329841794766454613364, 0, 0, 0, 26027201846473351524, 26028048470426739044, 0, 0, 436663987253882256765771635, 436663987253882256765771637, 111785980736993857731917406067, 111785980736993857731917406069, 436678191246819013120515955, 436678191246819013120515957, 111789616959185667358731951987, 111789616959185667358731951989, 111789616959185667358765244275, 111789616959185667358765244277, 6662963672727327568485, 6663180408459394773605, 0, 0, 1705718700218195857532216, 436663987255858139528245558, 1705774184565605062042936, 436678191248794895882989878, 436678191248794895882990386, 441736901899827843242228325, 441736901899827843041488759, 6662963672658524140404, 6663180408390591345524, 0, 0, 101668757212328314, 397143582860657, 397143582862949, 26027201846473678707, 26027201846473678709, 26027201846389792627, 26027201846389792629, 26027201846472695667, 26027201846472695669, 26027201846388809587, 26027201846388809589, 101672064337146234, 397156501316977, 397156501319269, 26028048470427066227, 26028048470427066229, 26028048470343180147, 26028048470343180149, 26028048470426083187, 26028048470426083189, 26028048470342197107, 26028048470342197109, 0, 0, 0, 0, 0, 0, 0, 0, 0, 0, 0, 0, 101668757212195962, 101668757212198010, 1705718700214875863608948, 101668757212062820, 101668757213246818, 101668757212853612, 6662963672662718963571, 6662963672662718963573, 6662963672722780807027, 6662963672722780807029, 101668757212065380, 397143582863218, 101668757213572978, 101668757213243500, 6662963672727126433651, 6662963672727126433653, 26027201846574019692, 26027201846574019698, 101672064337013882, 101672064337015930, 1705774184562285068119668, 101672064336880740, 101672064338064738, 101672064337671532, 6663180408394786168691, 6663180408394786168693, 6663180408454848012147, 6663180408454848012149, 101672064336883300, 397156501319538, 101672064338390898, 101672064338061420, 6663180408459193638771, 6663180408459193638773, 26028048470527407212, 26028048470527407218, 0, 0, 0, 0, 0, 0, 0, 0, 0, 0, 0, 0, 0, 0, 0, 0, 0, 0, 0, 0, 0, 0, 0, 0, 0, 0, 0, 0, 111785980737787335743579436596, 0, 0, 0, 0, 480132748869913983109133929636026277747, 480132748869913983109133929636026277749, 0, 0, 0, 0, 0, 0, 0, 0, 0, 0, 0, 0, 0, 0, 0, 0, 0, 0, 28617211068541954238588061769587, 7326006033546740285078543692881779, 28618141941423057503052585525107, 7326244337004302720781461774294899, 7326244337004302720781461807587187, 0, 0, 0, 0, 0, 0, 0, 0, 0, 0, 0, 0, 0, 0, 0, 0, 0, 0, 0, 0, 0, 0, 0, 0, 0, 0, 0, 0, 0, 0, 0, 0, 0, 0, 0, 0, 0, 0, 0, 0, 0, 0, 0, 0, 0, 0, 0, 0, 0, 0, 0, 0, 0, 0, 0, 0, 0, 0, 0]
def keyOf (n : Nat) : Nat := if (nameR n).2 = true then (nameR n).1.foldl (fun k c => k * 256 + c.toNat) 1 else 0
theorem keys_are : (List.range 256).map keyOf = keysL := by decide +kernel
def apartB : List Nat → Bool
  | [] => true
  | x :: r => (Nat.beq x 0 || r.all fun y => !Nat.beq x y) && apartB r
theorem apart_is : apartB keysL = true := by decide +kernel
theorem apartB_at : ∀ (l : List Nat), apartB l = true → ∀ (i j : Nat) (x : Nat), i < j → l[i]? = some x → l[j]? = some x → x = 0 := by
  intro l
  induction l with
  | nil => intro _ i j x _ h; simp at h
  | cons a r ih =>
    intro h i j x hij hi hj
    rw [apartB, Bool.and_eq_true] at h
    cases j with
    | zero => omega
    | succ j =>
      rw [List.getElem?_cons_succ] at hj
      cases i with
      | zero =>
        obtain rfl : a = x := by simpa using hi
        rcases (Bool.or_eq_true _ _ ▸ h.1) with h0 | h0
        · exact Nat.eq_of_beq_eq_true h0
        · have := List.all_eq_true.1 h0 a (List.mem_of_getElem? hj)
          simp at this
      | succ i =>
        rw [List.getElem?_cons_succ] at hi
        exact ih h.2 i j x (by omega) hi hj
theorem key_pos (s : List UInt8) : ∀ k, 1 ≤ k → 1 ≤ s.foldl (fun k c => k * 256 + c.toNat) k := by
  induction s with
  | nil => intro k h; exact h
  | cons c r ih =>
    intro k h
    have h1 : 1 ≤ k * 256 + c.toNat := Nat.le_trans h (Nat.le_trans (Nat.le_mul_of_pos_right k (by decide)) (Nat.le_add_right _ _))
    exact ih _ h1
theorem name_inj {a b : Nat} (ha : a ≤ 255) (hb : b ≤ 255) (h1 : (nameR a).2 = true) (h2 : (nameR b).2 = true) (h : (nameR a).1 = (nameR b).1) : a = b := by
  have hk : keyOf a = keyOf b := by unfold keyOf; rw [if_pos h1, if_pos h2, h]
  have h0 : keyOf a ≠ 0 := by
    unfold keyOf; rw [if_pos h1]
    have := key_pos (nameR a).1 1 (Nat.le_refl 1)
    omega
  have ga : keysL[a]? = some (keyOf a) := by rw [← keys_are, List.getElem?_map, List.getElem?_range (by omega)]; rfl
  have gb : keysL[b]? = some (keyOf a) := by rw [hk, ← keys_are, List.getElem?_map, List.getElem?_range (by omega)]; rfl
  rcases Nat.lt_trichotomy a b with hl | hl | hl
  · exact absurd (apartB_at _ apart_is a b _ hl ga gb) h0
  · exact hl
  · exact absurd (apartB_at _ apart_is b a _ hl gb ga) h0
end Go.Proofs.YtooimjefbdokaaaDoor.Asm
/- An instruction as words: the plain side. -/
set_option maxRecDepth 100000
set_option maxHeartbeats 4000000
set_option linter.unusedVariables false
set_option linter.unusedSimpArgs false
namespace Go.Proofs.YtooimjefbdokaaaDoor.Asm
open Go Go.Proofs.YtooimjefbdokaaaDoor.Eng Ins Nest Leb
/-- How many numbers stand behind an instruction (-1: a kind, -2: any number). -/
def besN (o : Int) : Int :=
  if 2 ≤ o ∧ o ≤ 4 then -1 else if o = 14 then -2 else if 0 < wid o then 2
  else if o = 12 ∨ o = 13 ∨ o = 16 ∨ o = 17 ∨ (32 ≤ o ∧ o ≤ 36) ∨ o = 65 ∨ o = 66 then 1 else 0
def i32W : Bs := [105, 51, 50]
def i64W : Bs := [105, 54, 52]
def kindW (a : Int) : List Bs := if a = 127 then [i32W] else if a = 126 then [i64W] else []
/-- What stands behind the name. -/
def restW (x : InsD) : List Bs :=
  if besN x.op = -1 then kindW x.a
  else if besN x.op = -2 then x.to.map Lib.itoa ++ [Lib.itoa x.a]
  else if besN x.op = 1 then [Lib.itoa x.a]
  else if besN x.op = 2 then [Lib.itoa x.a, Lib.itoa x.b]
  else []
def wordsI (x : InsD) : List Bs := (nameR x.op.toNat).1 :: restW x
theorem names_ok : ∀ n, n < 256 → (nameR n).2 = true → okW (nameR n).1 := by decide +kernel
theorem names_no : ∀ n, n < 256 → (nameR n).2 = false → (nameR n).1 = [] := by decide +kernel
theorem names_len : ∀ n, n < 256 → (nameR n).1.length ≤ 40 := by decide +kernel
theorem bes_tab : ∀ n : Nat, n < 256 → (bsd n ≠ 0 ↔ (nameR n).2 = true) ∧ (besN n = -1 ↔ bsd n = 2) ∧ (besN n = -2 ↔ bsd n = 4) ∧ (besN n = 2 ↔ bsd n = 6) ∧ (besN n = 1 ↔ (bsd n = 3 ∨ bsd n = 5 ∨ bsd n = 8 ∨ bsd n = 9)) ∧ (besN n = 0 ↔ bsd n = 0 ∨ bsd n = 1 ∨ bsd n = 7) := by decide +kernel
theorem bes_at {o : Int} (h : 0 ≤ o ∧ o ≤ 255) : (bsd o ≠ 0 ↔ (nameR o.toNat).2 = true) ∧ (besN o = -1 ↔ bsd o = 2) ∧ (besN o = -2 ↔ bsd o = 4) ∧ (besN o = 2 ↔ bsd o = 6) ∧ (besN o = 1 ↔ (bsd o = 3 ∨ bsd o = 5 ∨ bsd o = 8 ∨ bsd o = 9)) ∧ (besN o = 0 ↔ bsd o = 0 ∨ bsd o = 1 ∨ bsd o = 7) := by
  have := bes_tab o.toNat (by omega)
  rw [show ((o.toNat : Nat) : Int) = o by omega] at this
  exact this
theorem bes_cases (o : Int) : besN o = -1 ∨ besN o = -2 ∨ besN o = 1 ∨ besN o = 2 ∨ besN o = 0 := by
  unfold besN; repeat' split
  all_goals simp
/-- Numbers of an instruction are 64 bits wide. -/
def Wd (x : InsD) : Prop := (0 ≤ x.op ∧ x.op ≤ 255) ∧ I64 x.a ∧ I64 x.b ∧ ∀ n ∈ x.to, I64 n
theorem restW_1 {x : InsD} (h : besN x.op = -1) : restW x = kindW x.a := by unfold restW; rw [if_pos h]
theorem restW_2 {x : InsD} (h : besN x.op = -2) : restW x = x.to.map Lib.itoa ++ [Lib.itoa x.a] := by unfold restW; rw [if_neg (by omega), if_pos h]
theorem restW_3 {x : InsD} (h : besN x.op = 1) : restW x = [Lib.itoa x.a] := by unfold restW; rw [if_neg (by omega), if_neg (by omega), if_pos h]
theorem restW_4 {x : InsD} (h : besN x.op = 2) : restW x = [Lib.itoa x.a, Lib.itoa x.b] := by unfold restW; rw [if_neg (by omega), if_neg (by omega), if_neg (by omega), if_pos h]
theorem restW_5 {x : InsD} (h : besN x.op = 0) : restW x = [] := by unfold restW; rw [if_neg (by omega), if_neg (by omega), if_neg (by omega), if_neg (by omega)]
theorem kindW_inj {a b : Int} (ha : a = 64 ∨ a = 127 ∨ a = 126) (hb : b = 64 ∨ b = 127 ∨ b = 126) (h : kindW a = kindW b) : a = b := by
  rcases ha with rfl | rfl | rfl <;> rcases hb with rfl | rfl | rfl <;> first | rfl | exact absurd h (by decide)
theorem map_itoa_inj : ∀ {l m : List Int}, (∀ n ∈ l, I64 n) → (∀ n ∈ m, I64 n) → l.map Lib.itoa = m.map Lib.itoa → l = m
  | [], [], _, _, _ => rfl
  | [], _ :: _, _, _, h => by simp at h
  | _ :: _, [], _, _, h => by simp at h
  | x :: l, y :: m, hl, hm, h => by
    rw [List.map_cons, List.map_cons] at h
    injection h with h1 h2
    rw [itoa_inj (hl x (List.mem_cons_self ..)) (hm y (List.mem_cons_self ..)) h1, map_itoa_inj (fun n hn => hl n (List.mem_cons_of_mem _ hn)) (fun n hn => hm n (List.mem_cons_of_mem _ hn)) h2]
theorem words_inj {x y : InsD} (hx : Wd x) (hy : Wd y) (cx : chk x = 0) (cy : chk y = 0) (h : wordsI x = wordsI y) : x = y := by
  obtain ⟨o, a, b, tt⟩ := x
  obtain ⟨o', a', b', tt'⟩ := y
  obtain ⟨ho, ha, hb, ht⟩ := hx
  obtain ⟨ho', ha', hb', ht'⟩ := hy
  obtain ⟨x0, x16, x4, x6, x1, x2, x8, x66, x3, xt⟩ := chk_facts cx
  obtain ⟨y0, y16, y4, y6, y1, y2, y8, y66, y3, yt⟩ := chk_facts cy
  simp only at ho ha hb ht ho' ha' hb' ht'
  unfold wordsI at h
  injection h with h1 h2
  simp only at h1
  have e : o.toNat = o'.toNat := name_inj (by omega) (by omega) ((bes_at ho).1.1 x0) ((bes_at ho').1.1 y0) h1
  obtain rfl : o = o' := by omega
  obtain ⟨t0, t1, t2, t3, t4, t5⟩ := bes_at ho
  rcases bes_cases o with hc | hc | hc | hc | hc
  · rw [restW_1 hc, restW_1 hc] at h2
    have k := t1.1 hc
    rw [x4 (by omega), y4 (by omega), x6 (by omega), y6 (by omega), kindW_inj (x2 k) (y2 k) h2]
  · rw [restW_2 hc, restW_2 hc] at h2
    have k := t2.1 hc
    obtain ⟨h3, h4⟩ := List.append_inj' h2 rfl
    rw [x6 (by omega), y6 (by omega), map_itoa_inj ht ht' h3, itoa_inj ha ha' (List.cons.inj h4).1]
  · rw [restW_3 hc, restW_3 hc] at h2
    have k := t4.1 hc
    rw [x4 (by omega), y4 (by omega), x6 (by omega), y6 (by omega), itoa_inj ha ha' (List.cons.inj h2).1]
  · rw [restW_4 hc, restW_4 hc] at h2
    have k := t3.1 hc
    rw [x4 (by omega), y4 (by omega), itoa_inj ha ha' (List.cons.inj h2).1, itoa_inj hb hb' (List.cons.inj (List.cons.inj h2).2).1]
  · have k := t5.1 hc
    rw [x4 (by omega), y4 (by omega), x6 (by omega), y6 (by omega), x1 (by omega), y1 (by omega)]
theorem kindW_ok {a : Int} : ∀ w ∈ kindW a, okW w := by
  unfold kindW; repeat' split
  all_goals decide
theorem words_ok {x : InsD} (hx : Wd x) (cx : chk x = 0) : ∀ w ∈ wordsI x, okW w := by
  intro w hw
  have h0 := (chk_facts cx).1
  have hn := names_ok x.op.toNat (by have := hx.1; omega) ((bes_at hx.1).1.1 h0)
  rcases List.mem_cons.1 hw with rfl | hw
  · exact hn
  · rcases bes_cases x.op with hc | hc | hc | hc | hc
    · rw [restW_1 hc] at hw; exact kindW_ok w hw
    · rw [restW_2 hc] at hw
      rcases List.mem_append.1 hw with hw | hw
      · obtain ⟨n, _, rfl⟩ := List.mem_map.1 hw; exact okW_itoa n
      · rw [List.mem_singleton] at hw; subst hw; exact okW_itoa _
    · rw [restW_3 hc, List.mem_singleton] at hw; subst hw; exact okW_itoa _
    · rw [restW_4 hc] at hw
      rcases List.mem_cons.1 hw with rfl | hw
      · exact okW_itoa _
      · rw [List.mem_singleton] at hw; subst hw; exact okW_itoa _
    · rw [restW_5 hc] at hw; cases hw
theorem kindW_len (a : Int) : (kindW a).length ≤ 1 := by unfold kindW; repeat' split
                                                         all_goals decide
theorem itoa_len {n : Int} (h : I64 n) : (Lib.itoa n).length ≤ 21 := Lib.itoa_length_le n h.1 h.2
theorem words_len {x : InsD} (hx : Wd x) (h16 : x.to.length ≤ 16) : (wordsI x).length ≤ 18 ∧ ∀ w ∈ wordsI x, w.length ≤ 40 := by
  have hn := names_len x.op.toNat (by have := hx.1; omega)
  obtain ⟨ho, ha, hb, ht⟩ := hx
  have la := itoa_len ha
  have lb := itoa_len hb
  unfold wordsI
  rcases bes_cases x.op with hc | hc | hc | hc | hc
  · rw [restW_1 hc]
    have := kindW_len x.a
    refine ⟨by rw [List.length_cons]; omega, fun w hw => ?_⟩
    rcases List.mem_cons.1 hw with rfl | hw
    · exact hn
    · revert hw; unfold kindW; repeat' split
      all_goals simp [i32W, i64W]
      all_goals rintro rfl; decide
  · rw [restW_2 hc]
    refine ⟨by simp; omega, fun w hw => ?_⟩
    rcases List.mem_cons.1 hw with rfl | hw
    · exact hn
    · rcases List.mem_append.1 hw with hw | hw
      · obtain ⟨n, h, rfl⟩ := List.mem_map.1 hw; have := itoa_len (ht n h); omega
      · rw [List.mem_singleton] at hw; subst hw; omega
  · rw [restW_3 hc]
    refine ⟨by simp, fun w hw => ?_⟩
    rcases List.mem_cons.1 hw with rfl | hw
    · exact hn
    · rw [List.mem_singleton] at hw; subst hw; omega
  · rw [restW_4 hc]
    refine ⟨by simp, fun w hw => ?_⟩
    rcases List.mem_cons.1 hw with rfl | hw
    · exact hn
    · rcases List.mem_cons.1 hw with rfl | hw
      · omega
      · rw [List.mem_singleton] at hw; subst hw; omega
  · rw [restW_5 hc]
    refine ⟨by simp, fun w hw => ?_⟩
    rw [List.mem_singleton] at hw; subst hw; omega
/-- An instruction as a line. -/
def lineI (x : InsD) : Bs := Lib.join (wordsI x) [32]
theorem join_len : ∀ (l : List Bs) (n : Nat), (∀ w ∈ l, w.length ≤ n) → (Lib.join l [32]).length ≤ l.length * (n + 1) := by
  intro l
  cases l with
  | nil => intro n _; rw [Lib.join_nil]; simp
  | cons x r =>
    intro n h
    rw [Lib.join_length, List.length_cons]
    have : Lib.lens (x :: r) ≤ (r.length + 1) * n := by
      have key : ∀ l : List Bs, (∀ w ∈ l, w.length ≤ n) → Lib.lens l ≤ l.length * n := by
        intro l
        induction l with
        | nil => intro _; simp [Lib.lens]
        | cons y l ih =>
          intro h
          have h1 := h y (List.mem_cons_self ..)
          have h2 := ih fun w hw => h w (List.mem_cons_of_mem _ hw)
          unfold Lib.lens at h2 ⊢
          rw [List.map_cons, List.sum_cons, List.length_cons, Nat.succ_mul]
          omega
      exact key _ h
    rw [Nat.mul_add, Nat.mul_one]
    simp only [List.length_cons, List.length_nil]
    omega
theorem lineI_len {x : InsD} (hx : Wd x) (h16 : x.to.length ≤ 16) : (lineI x).length ≤ 738 := by
  obtain ⟨h1, h2⟩ := words_len hx h16
  have := join_len _ 40 h2
  unfold lineI
  omega
/-- A body as a text. -/
def textI (l : List InsD) : Bs := l.flatMap fun x => lineI x ++ [10]
theorem join_no10 : ∀ (l : List Bs), (∀ w ∈ l, (10 : UInt8) ∉ w) → (10 : UInt8) ∉ Lib.join l [32] := by
  intro l
  cases l with
  | nil => intro _; rw [Lib.join_nil]; simp
  | cons x r =>
    intro h
    rw [Lib.join_cons, List.mem_append, not_or]
    refine ⟨h x (List.mem_cons_self ..), fun hh => ?_⟩
    unfold Lib.joinTail at hh
    obtain ⟨y, h1, h2⟩ := List.mem_flatten.1 hh
    obtain ⟨z, h3, rfl⟩ := List.mem_map.1 h1
    rcases List.mem_append.1 h2 with h4 | h4
    · exact absurd h4 (by decide)
    · exact h z (List.mem_cons_of_mem _ h3) h4
theorem allW_text : ∀ l : List InsD, (∀ x ∈ l, Wd x ∧ chk x = 0) → allW (textI l) = l.map wordsI := by
  intro l
  induction l with
  | nil => intro _; decide +kernel
  | cons x l ih =>
    intro h
    have hx := h x (List.mem_cons_self ..)
    have hw := words_ok hx.1 hx.2
    have e : textI (x :: l) = lineI x ++ 10 :: textI l := by unfold textI; rw [List.flatMap_cons, List.append_assoc]; rfl
    have h1 : wordsOf (lineI x) = wordsI x := wordsOf_join _ fun w hw' => ⟨(hw w hw').1, (hw w hw').2.1, (hw w hw').2.2.1⟩
    have i := ih fun y hy => h y (List.mem_cons_of_mem _ hy)
    unfold allW at i ⊢
    rw [e, cutC_at, cutC_no 10 (lineI x) [] (join_no10 _ fun w hw' => (hw w hw').2.2.2), List.map_append, List.filter_append, i, List.map_cons, List.map_cons, List.map_nil, List.nil_append, h1]
    rfl
theorem map_words_inj : ∀ {l m : List InsD}, (∀ x ∈ l, Wd x ∧ chk x = 0) → (∀ x ∈ m, Wd x ∧ chk x = 0) → l.map wordsI = m.map wordsI → l = m
  | [], [], _, _, _ => rfl
  | [], _ :: _, _, _, h => by simp at h
  | _ :: _, [], _, _, h => by simp at h
  | x :: l, y :: m, hl, hm, h => by
    rw [List.map_cons, List.map_cons] at h
    injection h with h1 h2
    have a := hl x (List.mem_cons_self ..)
    have b := hm y (List.mem_cons_self ..)
    rw [words_inj a.1 b.1 a.2 b.2 h1, map_words_inj (fun n hn => hl n (List.mem_cons_of_mem _ hn)) (fun n hn => hm n (List.mem_cons_of_mem _ hn)) h2]
/-! ## The names as a map -/
def pairsOf (r : Nat × Bs × Bs) (k : Nat) : List (Bs × Int) := ((piecesL r.2.2).take k).zipIdx.map fun p => (r.2.1 ++ p.1, ((r.1 + p.2 : Nat) : Int))
def pairsL : List (Bs × Int) := rowsL.flatMap fun r => pairsOf r (piecesL r.2.2).length
def mfOf (l : List (Bs × Int)) : MF := l.foldl (fun f p => upd f p.1 (some p.2)) mf0
theorem mfOf_snoc (l : List (Bs × Int)) (p : Bs × Int) : mfOf (l ++ [p]) = upd (mfOf l) p.1 (some p.2) := by unfold mfOf; rw [List.foldl_append]; rfl
theorem pairsOf_succ {r : Nat × Bs × Bs} {k : Nat} {s : Bs} (h : (piecesL r.2.2)[k]? = some s) : pairsOf r (k + 1) = pairsOf r k ++ [(r.2.1 ++ s, ((r.1 + k : Nat) : Int))] := by
  have hl := (List.getElem?_eq_some_iff.1 h).1
  unfold pairsOf
  rw [List.take_add_one, h, List.zipIdx_append, List.map_append]
  simp [Nat.min_eq_left (Nat.le_of_lt hl)]
theorem mfOf_some : ∀ (l : List (Bs × Int)) (k : Bs) (v : Int), mfOf l k = some v → (k, v) ∈ l := by
  intro l
  have key : ∀ (l : List (Bs × Int)) (f : MF) (k : Bs) (v : Int), l.foldl (fun f p => upd f p.1 (some p.2)) f k = some v → (k, v) ∈ l ∨ f k = some v := by
    intro l
    induction l with
    | nil => intro f k v h; exact .inr h
    | cons p l ih =>
      intro f k v h
      rcases ih _ k v h with h | h
      · exact .inl (List.mem_cons_of_mem _ h)
      · unfold upd at h
        simp only at h
        split at h
        · rename_i e; injection h with h; rw [e, ← h]; exact .inl (List.mem_cons_self ..)
        · exact .inr h
  intro k v h
  rcases key l mf0 k v h with h | h
  · exact h
  · cases h
theorem mfOf_none : ∀ (l : List (Bs × Int)) (k : Bs), mfOf l k = none → ∀ v, (k, v) ∉ l := by
  have key : ∀ (l : List (Bs × Int)) (f : MF) (k : Bs), l.foldl (fun f p => upd f p.1 (some p.2)) f k = none → f k = none ∧ ∀ v, (k, v) ∉ l := by
    intro l
    induction l with
    | nil => intro f k h; exact ⟨h, fun v hv => by cases hv⟩
    | cons p l ih =>
      intro f k h
      obtain ⟨h1, h2⟩ := ih _ k h
      unfold upd at h1
      simp only at h1
      split at h1
      · cases h1
      · rename_i e
        refine ⟨h1, fun v hv => ?_⟩
        rcases List.mem_cons.1 hv with h | h
        · exact e (by rw [← h])
        · exact h2 v h
  intro l k h
  exact (key l mf0 k h).2
theorem pairs_named : ∀ p ∈ pairsL, 0 ≤ p.2 ∧ p.2 ≤ 255 ∧ nameR p.2.toNat = (p.1, true) := by decide +kernel
def isIn (p : Bs × Int) : List (Bs × Int) → Bool
  | [] => false
  | q :: r => (decide (q.1 = p.1) && decide (q.2 = p.2)) || isIn p r
theorem isIn_mem {p : Bs × Int} : ∀ {l}, isIn p l = true → p ∈ l
  | [], h => by cases h
  | q :: r, h => by
    rw [isIn, Bool.or_eq_true] at h
    rcases h with h | h
    · simp only [Bool.and_eq_true, decide_eq_true_eq] at h
      have : p = q := by cases p; cases q; simp at h; rw [h.1, h.2]
      rw [this]; exact List.mem_cons_self ..
    · exact List.mem_cons_of_mem _ (isIn_mem h)
theorem named_pairs : ∀ n, n < 256 → (nameR n).2 = true → isIn ((nameR n).1, (n : Int)) pairsL = true := by decide +kernel
def namesM : MF := mfOf pairsL
theorem namesM_y {k : Bs} {v : Int} (h : namesM k = some v) : 0 ≤ v ∧ v ≤ 255 ∧ (nameR v.toNat).1 = k ∧ (nameR v.toNat).2 = true := by
  obtain ⟨h1, h2, h3⟩ := pairs_named _ (mfOf_some _ _ _ h)
  exact ⟨h1, h2, by rw [h3], by rw [h3]⟩
theorem namesM_n {k : Bs} (h : namesM k = none) {o : Int} (ho : 0 ≤ o ∧ o ≤ 255) (hk : (nameR o.toNat).2 = true) : (nameR o.toNat).1 ≠ k := by
  intro e
  have := isIn_mem (named_pairs o.toNat (by omega) hk)
  rw [e] at this
  exact mfOf_none _ _ h _ this
end Go.Proofs.YtooimjefbdokaaaDoor.Asm
/-
  Contracts of the library, laid at this program by the kit's tools.
-/
namespace Go.Proofs
open Go.Shelf
def Tryd.lays145_ren : Go.Shelf.Ren := ⟨fun | 145 => 17 | 220 => 32 | 219 => 45 | 217 => 56 | 225 => 57 | 224 => 58 | 267 => 59 | 266 => 69 | 314 => 70 | n => n, fun | 9 => 9 | 4 => 4 | 59 => 52 | 3 => 3 | 5 => 5 | 46 => 109 | 146 => 118 | 51 => 114 | n => n, fun | 1 => 0 | n => n⟩
theorem Tryd.lays145 : Go.Proofs.Lays.n145 Tryd.prog Tryd.lays145_ren := {
  mixed := by kernel_rfl
  f145 := Tryd.func17.trans (congrArg some (by kernel_rfl))
  f217 := Tryd.func56.trans (congrArg some (by kernel_rfl))
  f219 := Tryd.func45.trans (congrArg some (by kernel_rfl))
  f220 := Tryd.func32.trans (congrArg some (by kernel_rfl))
  f224 := Tryd.func58.trans (congrArg some (by kernel_rfl))
  f225 := Tryd.func57.trans (congrArg some (by kernel_rfl))
  f266 := Tryd.func69.trans (congrArg some (by kernel_rfl))
  f267 := Tryd.func59.trans (congrArg some (by kernel_rfl))
  f314 := Tryd.func70.trans (congrArg some (by kernel_rfl))
  t3 := Tryd.underlying3
  a3 := Tryd.isAgg3
  z3 := Tryd.sizeOf3
  v3 := Tryd.zeroValue3
  t4 := Tryd.underlying4
  a4 := Tryd.isAgg4
  z4 := Tryd.sizeOf4
  v4 := Tryd.zeroValue4
  t5 := Tryd.underlying5
  a5 := Tryd.isAgg5
  z5 := Tryd.sizeOf5
  v5 := Tryd.zeroValue5
  t9 := Tryd.underlying9
  a9 := Tryd.isAgg9
  z9 := Tryd.sizeOf9
  v9 := Tryd.zeroValue9
  t46 := Tryd.underlying109
  a46 := Tryd.isAgg109
  z46 := Tryd.sizeOf109
  v46 := Tryd.zeroValue109
  t51 := Tryd.underlying114
  a51 := Tryd.isAgg114
  z51 := Tryd.sizeOf114
  v51 := Tryd.zeroValue114
  t59 := Tryd.underlying52
  a59 := Tryd.isAgg52
  z59 := Tryd.sizeOf52
  v59 := Tryd.zeroValue52
  t146 := Tryd.underlying118
  a146 := Tryd.isAgg118
  z146 := Tryd.sizeOf118
  v146 := Tryd.zeroValue118
  g1 := by kernel_rfl }
open Go.RowKit Go.Lib in
/-- strings.Cut: "Cut slices s around the first instance of sep, returning the text before and after sep. The found result reports whether sep appears in s. If sep does not appear in s, cut returns s, "", false.": IT RETURNS 'Lib.cut s sep'; the world is as it was but for the count of draws. (LAID: no walk: one application.) -/
theorem Tryd.strings_Cut (s sep : ByteArray) (m : Int) (w : World) (hs : s.size < 4294967281) (hm : w.cell? ⟨0, 0, none⟩ = some (.int .i64 m)) :
    Calls Tryd.prog 17 #[.string s, .string sep] w fun e w' => e = .returned (.tuple #[.string ⟨(Lib.cut s.data.toList sep.data.toList).1.toArray⟩, .string ⟨(Lib.cut s.data.toList sep.data.toList).2.1.toArray⟩, .bool (Lib.cut s.data.toList sep.data.toList).2.2]) ∧ ∃ n, w' = w.drewN n := Any.strings_Cut Tryd.lays145 s sep m w hs hm
end Go.Proofs
/-
  Contracts of the library, laid at this program by the kit's tools.
-/
namespace Go.Proofs
open Go.Shelf
def Tryd.laysM173_ren : Go.Shelf.Ren := ⟨fun | 173 => 28 | 246 => 40 | 283 => 49 | 284 => 50 | 285 => 51 | 286 => 52 | 129 => 64 | 317 => 63 | 318 => 65 | 319 => 66 | 320 => 67 | 337 => 76 | 338 => 77 | n => n, fun | 2 => 2 | 3 => 3 | 9 => 9 | 4 => 4 | 171 => 98 | 0 => 0 | 53 => 99 | 37 => 33 | 5 => 5 | 173 => 102 | 212 => 113 | 51 => 114 | 20 => 20 | 213 => 115 | 46 => 109 | 232 => 136 | 233 => 137 | n => n, fun | 17 => 1 | 18 => 6 | 19 => 7 | n => n⟩
theorem Tryd.laysM173 : Go.Proofs.LaysM.n173 Tryd.prog Tryd.laysM173_ren := {
  mixed := by kernel_rfl
  f129 := Tryd.func64.trans (congrArg some (by kernel_rfl))
  f173 := Tryd.func28.trans (congrArg some (by kernel_rfl))
  f246 := Tryd.func40.trans (congrArg some (by kernel_rfl))
  f283 := Tryd.func49.trans (congrArg some (by kernel_rfl))
  f284 := Tryd.func50.trans (congrArg some (by kernel_rfl))
  f285 := Tryd.func51.trans (congrArg some (by kernel_rfl))
  f286 := Tryd.func52.trans (congrArg some (by kernel_rfl))
  f317 := Tryd.func63.trans (congrArg some (by kernel_rfl))
  f318 := Tryd.func65.trans (congrArg some (by kernel_rfl))
  f319 := Tryd.func66.trans (congrArg some (by kernel_rfl))
  f320 := Tryd.func67.trans (congrArg some (by kernel_rfl))
  f337 := Tryd.func76.trans (congrArg some (by kernel_rfl))
  f338 := Tryd.func77.trans (congrArg some (by kernel_rfl))
  t0 := Tryd.underlying0
  a0 := Tryd.isAgg0
  z0 := Tryd.sizeOf0
  v0 := Tryd.zeroValue0
  t2 := Tryd.underlying2
  a2 := Tryd.isAgg2
  z2 := Tryd.sizeOf2
  v2 := Tryd.zeroValue2
  t3 := Tryd.underlying3
  a3 := Tryd.isAgg3
  z3 := Tryd.sizeOf3
  v3 := Tryd.zeroValue3
  t4 := Tryd.underlying4
  a4 := Tryd.isAgg4
  z4 := Tryd.sizeOf4
  v4 := Tryd.zeroValue4
  t5 := Tryd.underlying5
  a5 := Tryd.isAgg5
  z5 := Tryd.sizeOf5
  v5 := Tryd.zeroValue5
  t9 := Tryd.underlying9
  a9 := Tryd.isAgg9
  z9 := Tryd.sizeOf9
  v9 := Tryd.zeroValue9
  t20 := Tryd.underlying20
  a20 := Tryd.isAgg20
  z20 := Tryd.sizeOf20
  v20 := Tryd.zeroValue20
  t37 := Tryd.underlying33
  a37 := Tryd.isAgg33
  z37 := Tryd.sizeOf33
  v37 := Tryd.zeroValue33
  t46 := Tryd.underlying109
  a46 := Tryd.isAgg109
  z46 := Tryd.sizeOf109
  v46 := Tryd.zeroValue109
  t51 := Tryd.underlying114
  a51 := Tryd.isAgg114
  z51 := Tryd.sizeOf114
  v51 := Tryd.zeroValue114
  t53 := Tryd.underlying99
  a53 := Tryd.isAgg99
  z53 := Tryd.sizeOf99
  v53 := Tryd.zeroValue99
  t171 := Tryd.underlying98
  a171 := Tryd.isAgg98
  z171 := Tryd.sizeOf98
  v171 := Tryd.zeroValue98
  t173 := Tryd.underlying102
  a173 := Tryd.isAgg102
  z173 := Tryd.sizeOf102
  v173 := Tryd.zeroValue102
  t212 := Tryd.underlying113
  a212 := Tryd.isAgg113
  z212 := Tryd.sizeOf113
  v212 := Tryd.zeroValue113
  t213 := Tryd.underlying115
  a213 := Tryd.isAgg115
  z213 := Tryd.sizeOf115
  t232 := Tryd.underlying136
  a232 := Tryd.isAgg136
  z232 := Tryd.sizeOf136
  v232 := Tryd.zeroValue136
  t233 := Tryd.underlying137
  a233 := Tryd.isAgg137
  z233 := Tryd.sizeOf137
  v233 := Tryd.zeroValue137
  g17 := by kernel_rfl
  g18 := by kernel_rfl
  g19 := by kernel_rfl
  i0 := by kernel_rfl
  i2 := by kernel_rfl
  i3 := by kernel_rfl
  i4 := by kernel_rfl
  i5 := by kernel_rfl
  i9 := by kernel_rfl
  i20 := by kernel_rfl
  i37 := by kernel_rfl
  i46 := by kernel_rfl
  i51 := by kernel_rfl
  i53 := by kernel_rfl
  i171 := by kernel_rfl
  i173 := by kernel_rfl
  i212 := by kernel_rfl
  i232 := by kernel_rfl
  i233 := by kernel_rfl
  m17 := by kernel_rfl
  m18 := by kernel_rfl
  m19 := by kernel_rfl }
open Go.RowKit Go.Sort Go.Lib in
/-- strconv.FormatInt: "FormatInt returns the string representation of i in the given base": AT BASE 10: i's decimal numeral, for every int64. (LAID: no walk: one application.) -/
theorem Tryd.strconv_FormatInt_10 (n : Int) (h0 : -9223372036854775808 ≤ n) (h1 : n ≤ 9223372036854775807) (w : World) (htab : Lib.TabIs Tryd.prog w "internal/strconv.uint64pow10" .u64 Lib.pow10Tab) :
    Calls Tryd.prog 28 #[.int .i64 n, .int .i64 10] w fun e w' => e = .returned (.string ⟨(Lib.itoa n).toArray⟩) ∧ ∃ k os, w' = grow (w.drewN k) os := Any.strconv_FormatInt_10 Tryd.laysM173 n h0 h1 w htab
def Tryd.laysC174_ren : Go.Shelf.Ren := ⟨fun | 174 => 46 | 247 => 60 | 245 => 61 | 287 => 71 | 279 => 72 | 280 => 73 | 281 => 74 | 282 => 75 | 321 => 78 | 322 => 79 | 316 => 80 | 171 => 82 | 205 => 81 | 243 => 83 | 246 => 40 | 283 => 49 | 284 => 50 | 285 => 51 | 286 => 52 | 129 => 64 | 317 => 63 | 318 => 65 | 319 => 66 | 320 => 67 | 337 => 76 | 338 => 77 | n => n, fun | 9 => 9 | 3 => 3 | 2 => 2 | 75 => 40 | 85 => 90 | 4 => 4 | 167 => 120 | 5 => 5 | 53 => 99 | 175 => 121 | 46 => 109 | 168 => 123 | 37 => 33 | 0 => 0 | 210 => 134 | 21 => 21 | 127 => 72 | 145 => 140 | 143 => 138 | 171 => 98 | 173 => 102 | 212 => 113 | 51 => 114 | 20 => 20 | 213 => 115 | 232 => 136 | 233 => 137 | 80 => 48 | n => n, fun | 15 => 4 | 16 => 5 | 17 => 1 | 18 => 6 | 19 => 7 | n => n⟩
theorem Tryd.laysC174 : Go.Proofs.LaysC.n174 Tryd.prog Tryd.laysC174_ren := {
  mixed := by kernel_rfl
  f129 := Tryd.func64.trans (congrArg some (by kernel_rfl))
  f171 := Tryd.func82.trans (congrArg some (by kernel_rfl))
  f174 := Tryd.func46.trans (congrArg some (by kernel_rfl))
  f205 := Tryd.func81.trans (congrArg some (by kernel_rfl))
  f243 := Tryd.func83.trans (congrArg some (by kernel_rfl))
  f245 := Tryd.func61.trans (congrArg some (by kernel_rfl))
  f246 := Tryd.func40.trans (congrArg some (by kernel_rfl))
  f247 := Tryd.func60.trans (congrArg some (by kernel_rfl))
  f279 := Tryd.func72.trans (congrArg some (by kernel_rfl))
  f280 := Tryd.func73.trans (congrArg some (by kernel_rfl))
  f281 := Tryd.func74.trans (congrArg some (by kernel_rfl))
  f282 := Tryd.func75.trans (congrArg some (by kernel_rfl))
  f283 := Tryd.func49.trans (congrArg some (by kernel_rfl))
  f284 := Tryd.func50.trans (congrArg some (by kernel_rfl))
  f285 := Tryd.func51.trans (congrArg some (by kernel_rfl))
  f286 := Tryd.func52.trans (congrArg some (by kernel_rfl))
  f287 := Tryd.func71.trans (congrArg some (by kernel_rfl))
  f316 := Tryd.func80.trans (congrArg some (by kernel_rfl))
  f317 := Tryd.func63.trans (congrArg some (by kernel_rfl))
  f318 := Tryd.func65.trans (congrArg some (by kernel_rfl))
  f319 := Tryd.func66.trans (congrArg some (by kernel_rfl))
  f320 := Tryd.func67.trans (congrArg some (by kernel_rfl))
  f321 := Tryd.func78.trans (congrArg some (by kernel_rfl))
  f322 := Tryd.func79.trans (congrArg some (by kernel_rfl))
  f337 := Tryd.func76.trans (congrArg some (by kernel_rfl))
  f338 := Tryd.func77.trans (congrArg some (by kernel_rfl))
  t0 := Tryd.underlying0
  a0 := Tryd.isAgg0
  z0 := Tryd.sizeOf0
  v0 := Tryd.zeroValue0
  t2 := Tryd.underlying2
  a2 := Tryd.isAgg2
  z2 := Tryd.sizeOf2
  v2 := Tryd.zeroValue2
  t3 := Tryd.underlying3
  a3 := Tryd.isAgg3
  z3 := Tryd.sizeOf3
  v3 := Tryd.zeroValue3
  t4 := Tryd.underlying4
  a4 := Tryd.isAgg4
  z4 := Tryd.sizeOf4
  v4 := Tryd.zeroValue4
  t5 := Tryd.underlying5
  a5 := Tryd.isAgg5
  z5 := Tryd.sizeOf5
  v5 := Tryd.zeroValue5
  t9 := Tryd.underlying9
  a9 := Tryd.isAgg9
  z9 := Tryd.sizeOf9
  v9 := Tryd.zeroValue9
  t20 := Tryd.underlying20
  a20 := Tryd.isAgg20
  z20 := Tryd.sizeOf20
  v20 := Tryd.zeroValue20
  t21 := Tryd.underlying21
  a21 := Tryd.isAgg21
  z21 := Tryd.sizeOf21
  v21 := Tryd.zeroValue21
  t37 := Tryd.underlying33
  a37 := Tryd.isAgg33
  z37 := Tryd.sizeOf33
  v37 := Tryd.zeroValue33
  t46 := Tryd.underlying109
  a46 := Tryd.isAgg109
  z46 := Tryd.sizeOf109
  v46 := Tryd.zeroValue109
  t51 := Tryd.underlying114
  a51 := Tryd.isAgg114
  z51 := Tryd.sizeOf114
  v51 := Tryd.zeroValue114
  t53 := Tryd.underlying99
  a53 := Tryd.isAgg99
  z53 := Tryd.sizeOf99
  v53 := Tryd.zeroValue99
  t75 := Tryd.underlying40
  a75 := Tryd.isAgg40
  z75 := Tryd.sizeOf40
  v75 := Tryd.zeroValue40
  t85 := Tryd.underlying90
  a85 := Tryd.isAgg90
  z85 := Tryd.sizeOf90
  v85 := Tryd.zeroValue90
  t127 := Tryd.underlying72
  a127 := Tryd.isAgg72
  z127 := Tryd.sizeOf72
  v127 := Tryd.zeroValue72
  t143 := Tryd.underlying138
  a143 := Tryd.isAgg138
  z143 := Tryd.sizeOf138
  v143 := Tryd.zeroValue138
  t145 := Tryd.underlying140
  a145 := Tryd.isAgg140
  z145 := Tryd.sizeOf140
  v145 := Tryd.zeroValue140
  t167 := Tryd.underlying120
  a167 := Tryd.isAgg120
  z167 := Tryd.sizeOf120
  v167 := Tryd.zeroValue120
  t168 := Tryd.underlying123
  a168 := Tryd.isAgg123
  z168 := Tryd.sizeOf123
  v168 := Tryd.zeroValue123
  t171 := Tryd.underlying98
  a171 := Tryd.isAgg98
  z171 := Tryd.sizeOf98
  v171 := Tryd.zeroValue98
  t173 := Tryd.underlying102
  a173 := Tryd.isAgg102
  z173 := Tryd.sizeOf102
  v173 := Tryd.zeroValue102
  t175 := Tryd.underlying121
  a175 := Tryd.isAgg121
  z175 := Tryd.sizeOf121
  v175 := Tryd.zeroValue121
  t210 := Tryd.underlying134
  a210 := Tryd.isAgg134
  z210 := Tryd.sizeOf134
  v210 := Tryd.zeroValue134
  t212 := Tryd.underlying113
  a212 := Tryd.isAgg113
  z212 := Tryd.sizeOf113
  v212 := Tryd.zeroValue113
  t213 := Tryd.underlying115
  a213 := Tryd.isAgg115
  z213 := Tryd.sizeOf115
  t232 := Tryd.underlying136
  a232 := Tryd.isAgg136
  z232 := Tryd.sizeOf136
  v232 := Tryd.zeroValue136
  t233 := Tryd.underlying137
  a233 := Tryd.isAgg137
  z233 := Tryd.sizeOf137
  v233 := Tryd.zeroValue137
  g15 := by kernel_rfl
  g16 := by kernel_rfl
  g17 := by kernel_rfl
  g18 := by kernel_rfl
  g19 := by kernel_rfl
  t80 := Tryd.underlying48
  a80 := Tryd.isAgg48
  z80 := Tryd.sizeOf48
  v80 := Tryd.zeroValue48
  i0 := by kernel_rfl
  i2 := by kernel_rfl
  i3 := by kernel_rfl
  i4 := by kernel_rfl
  i5 := by kernel_rfl
  i9 := by kernel_rfl
  i20 := by kernel_rfl
  i21 := by kernel_rfl
  i37 := by kernel_rfl
  i46 := by kernel_rfl
  i51 := by kernel_rfl
  i53 := by kernel_rfl
  i75 := by kernel_rfl
  i80 := by kernel_rfl
  i85 := by kernel_rfl
  i127 := by kernel_rfl
  i143 := by kernel_rfl
  i145 := by kernel_rfl
  i167 := by kernel_rfl
  i168 := by kernel_rfl
  i171 := by kernel_rfl
  i173 := by kernel_rfl
  i175 := by kernel_rfl
  i210 := by kernel_rfl
  i212 := by kernel_rfl
  i232 := by kernel_rfl
  i233 := by kernel_rfl
  m15 := by kernel_rfl
  m16 := by kernel_rfl
  m17 := by kernel_rfl
  m18 := by kernel_rfl
  m19 := by kernel_rfl
  c0 := by kernel_rfl
  c2 := by kernel_rfl
  c3 := by kernel_rfl
  c4 := by kernel_rfl
  c5 := by kernel_rfl
  c9 := by kernel_rfl
  c20 := by kernel_rfl
  c21 := by kernel_rfl
  c37 := by kernel_rfl
  c46 := by kernel_rfl
  c51 := by kernel_rfl
  c53 := by kernel_rfl
  c75 := by kernel_rfl
  c80 := by kernel_rfl
  c85 := by kernel_rfl
  c127 := by kernel_rfl
  c143 := by kernel_rfl
  c145 := by kernel_rfl
  c167 := by kernel_rfl
  c168 := by kernel_rfl
  c171 := by kernel_rfl
  c173 := by kernel_rfl
  c175 := by kernel_rfl
  c210 := by kernel_rfl
  c212 := by kernel_rfl
  c213 := by kernel_rfl
  c232 := by kernel_rfl
  c233 := by kernel_rfl }
open Go.RowKit in
/-- strconv.ParseInt(s, 10, 64), AT EVERY STRING THAT SPELLS AN int64 ('Lib.parseIntB 64 s.data.toList = .ok v'): v, AND NO ERROR. (LAID: no walk: one application.) -/
theorem Tryd.strconv_ParseInt_10_at64_ok (s : ByteArray) (hmax : s.size ≤ 9223372036854775806) (v : Int) (h : Lib.parseIntB 64 s.data.toList = .ok v) (w : World) :
    Calls Tryd.prog 46 #[.string s, .int .i64 10, .int .i64 64] w fun e w' => e = .returned (.tuple #[.int .i64 v, .nilIface]) ∧ (w' = w ∨ ∃ t, w' = Lib.bytesWorld w 5 t) := Any.strconv_ParseInt_10_at64_ok Tryd.laysC174 s hmax v h w
open Go.RowKit in
/-- strconv.ParseInt(s, 10, 64), AT EVERY STRING THAT IS NO DECIMAL NUMERAL: 0, AND AN ERROR THAT IS NOT nil: a *NumError in a new block N: {Func: "ParseInt", Num: s's bytes, Err: what the variable ErrSyntax holds}. Of what was there nothing has turned. (LAID: no walk: one application.) -/
theorem Tryd.strconv_ParseInt_10_at64_syntax (s : ByteArray) (hlim : s.size ≤ 281474976710656) (h : Lib.parseIntB 64 s.data.toList = .«syntax») (ev : Value) (w : World) (hv : w.cell? ⟨4, 0, none⟩ = some ev) (hev : ev = .nilIface ∨ ∃ te pe, ev = .iface te pe) :
    Calls Tryd.prog 46 #[.string s, .int .i64 10, .int .i64 64] w fun e w' => ∃ N, e = .returned (.tuple #[.int .i64 (0), .iface 123 (.pointer (some ⟨N, 0, none⟩))]) ∧ w.heap.size ≤ N ∧ w'.heap[N]? = some (.cells #[.string ⟨#[80, 97, 114, 115, 101, 73, 110, 116]⟩, .string s, ev] 134 (0, 0)) ∧ Below w.heap.size w w' := Any.strconv_ParseInt_10_at64_syntax Tryd.laysC174 s hlim h ev w hv hev
open Go.RowKit in
/-- strconv.ParseInt(s, 10, 64), AT EVERY NUMERAL THAT NO int64 HOLDS: THE GREATEST OR THE LEAST int64, BY THE SIGN ('Lib.intSat 64'), AND AN ERROR THAT IS NOT nil: a *NumError in a new block N: {Func: "ParseInt", Num: s's bytes, Err: what the variable ErrRange holds}. Of what was there nothing has turned. (LAID: no walk: one application.) -/
theorem Tryd.strconv_ParseInt_10_at64_range (s : ByteArray) (hlim : s.size ≤ 281474976710656) (h : Lib.parseIntB 64 s.data.toList = .range) (ev : Value) (w : World) (hv : w.cell? ⟨5, 0, none⟩ = some ev) (hev : ev = .nilIface ∨ ∃ te pe, ev = .iface te pe) :
    Calls Tryd.prog 46 #[.string s, .int .i64 10, .int .i64 64] w fun e w' => ∃ N, e = .returned (.tuple #[.int .i64 (Lib.intSat 64 s.data.toList), .iface 123 (.pointer (some ⟨N, 0, none⟩))]) ∧ w.heap.size ≤ N ∧ w'.heap[N]? = some (.cells #[.string ⟨#[80, 97, 114, 115, 101, 73, 110, 116]⟩, .string s, ev] 134 (0, 0)) ∧ Below w.heap.size w w' := Any.strconv_ParseInt_10_at64_range Tryd.laysC174 s hlim h ev w hv hev
end Go.Proofs
/-
  Contracts of the library, laid at this program by the kit's tools.
-/
namespace Go.Proofs
open Go.Shelf
def Tryd.lays156_ren : Go.Shelf.Ren := ⟨fun | 156 => 10 | 165 => 25 | 166 => 9 | 169 => 14 | 240 => 24 | 241 => 39 | 276 => 38 | 277 => 48 | n => n, fun | 31 => 44 | 9 => 9 | 3 => 3 | 4 => 4 | 0 => 0 | 20 => 20 | 72 => 35 | 76 => 41 | 70 => 32 | 37 => 33 | 75 => 40 | 127 => 72 | 164 => 86 | 5 => 5 | 80 => 48 | n => n, fun | n => n⟩
theorem Tryd.lays156 : Go.Proofs.Lays.n156 Tryd.prog Tryd.lays156_ren := {
  mixed := by kernel_rfl
  f156 := Tryd.func10.trans (congrArg some (by kernel_rfl))
  f165 := Tryd.func25.trans (congrArg some (by kernel_rfl))
  f166 := Tryd.func9.trans (congrArg some (by kernel_rfl))
  f169 := Tryd.func14.trans (congrArg some (by kernel_rfl))
  f240 := Tryd.func24.trans (congrArg some (by kernel_rfl))
  f241 := Tryd.func39.trans (congrArg some (by kernel_rfl))
  f276 := Tryd.func38.trans (congrArg some (by kernel_rfl))
  f277 := Tryd.func48.trans (congrArg some (by kernel_rfl))
  t0 := Tryd.underlying0
  a0 := Tryd.isAgg0
  z0 := Tryd.sizeOf0
  v0 := Tryd.zeroValue0
  t3 := Tryd.underlying3
  a3 := Tryd.isAgg3
  z3 := Tryd.sizeOf3
  v3 := Tryd.zeroValue3
  t4 := Tryd.underlying4
  a4 := Tryd.isAgg4
  z4 := Tryd.sizeOf4
  v4 := Tryd.zeroValue4
  t9 := Tryd.underlying9
  a9 := Tryd.isAgg9
  z9 := Tryd.sizeOf9
  v9 := Tryd.zeroValue9
  t20 := Tryd.underlying20
  a20 := Tryd.isAgg20
  z20 := Tryd.sizeOf20
  v20 := Tryd.zeroValue20
  t31 := Tryd.underlying44
  a31 := Tryd.isAgg44
  z31 := Tryd.sizeOf44
  v31 := Tryd.zeroValue44
  t37 := Tryd.underlying33
  a37 := Tryd.isAgg33
  z37 := Tryd.sizeOf33
  v37 := Tryd.zeroValue33
  t70 := Tryd.underlying32
  a70 := Tryd.isAgg32
  z70 := Tryd.sizeOf32
  v70 := Tryd.zeroValue32
  t72 := Tryd.underlying35
  a72 := Tryd.isAgg35
  z72 := Tryd.sizeOf35
  v72 := Tryd.zeroValue35
  t75 := Tryd.underlying40
  a75 := Tryd.isAgg40
  z75 := Tryd.sizeOf40
  v75 := Tryd.zeroValue40
  t76 := Tryd.underlying41
  a76 := Tryd.isAgg41
  z76 := Tryd.sizeOf41
  v76 := Tryd.zeroValue41
  t127 := Tryd.underlying72
  a127 := Tryd.isAgg72
  z127 := Tryd.sizeOf72
  v127 := Tryd.zeroValue72
  t164 := Tryd.underlying86
  a164 := Tryd.isAgg86
  z164 := Tryd.sizeOf86
  v164 := Tryd.zeroValue86 }
theorem Tryd.Builder_Extra_156 : Builder.Extra Tryd.prog Tryd.lays156_ren := {
  sizeBuilder := by kernel_rfl
  liesBuilder := by kernel_rfl
  t5 := Tryd.underlying5
  a5 := Tryd.isAgg5
  z5 := Tryd.sizeOf5
  v5 := Tryd.zeroValue5
  infoByte := by kernel_rfl
  cellsByte := by kernel_rfl
  sizeByte := by kernel_rfl
  neB5 := by decide }
open Go.RowKit in
/-- strings.Join: "Join concatenates the elements of its first argument to create a single string. The separator string sep is placed between elements in the resulting string.": HOWEVER MANY ELEMENTS. Below the heap's end the world is as it was. (LAID: no walk: one application.) -/
theorem Tryd.strings_Join (bk o c : Nat) (xs : List ByteArray) (sep : ByteArray) (w : World) (hcells : ∀ (j : Nat) x, xs[j]? = some x → w.cell? ⟨bk, o + j, none⟩ = some (.string x)) (hbk : bk < w.heap.size) (hN : xs.length ≤ 140737488355328) (hcap : xs.length ≤ c) (hlen : (Lib.join (xs.map (·.data.toList)) sep.data.toList).length ≤ 140737488355328) :
    Calls Tryd.prog 10 #[.slice (some ⟨bk, o, none⟩) xs.length c, .string sep] w fun e w' => e = .returned (.string ⟨(Lib.join (xs.map (·.data.toList)) sep.data.toList).toArray⟩) ∧ Below w.heap.size w w' := Any.strings_Join Tryd.lays156 Tryd.Builder_Extra_156 bk o c xs sep w hcells hbk hN hcap hlen
end Go.Proofs
/-
  Contracts of the library, laid at this program by the kit's tools.
-/
namespace Go.Proofs
open Go.Shelf
def Tryd.lays170_ren : Go.Shelf.Ren := ⟨fun | 170 => 13 | n => n, fun | 70 => 32 | 3 => 3 | 0 => 0 | 72 => 35 | 37 => 33 | 5 => 5 | n => n, fun | n => n⟩
theorem Tryd.lays170 : Go.Proofs.Lays.n170 Tryd.prog Tryd.lays170_ren := {
  mixed := by kernel_rfl
  f170 := Tryd.func13.trans (congrArg some (by kernel_rfl))
  t0 := Tryd.underlying0
  a0 := Tryd.isAgg0
  z0 := Tryd.sizeOf0
  v0 := Tryd.zeroValue0
  t3 := Tryd.underlying3
  a3 := Tryd.isAgg3
  z3 := Tryd.sizeOf3
  v3 := Tryd.zeroValue3
  t37 := Tryd.underlying33
  a37 := Tryd.isAgg33
  z37 := Tryd.sizeOf33
  v37 := Tryd.zeroValue33
  t70 := Tryd.underlying32
  a70 := Tryd.isAgg32
  z70 := Tryd.sizeOf32
  v70 := Tryd.zeroValue32
  t72 := Tryd.underlying35
  a72 := Tryd.isAgg35
  z72 := Tryd.sizeOf35
  v72 := Tryd.zeroValue35 }
open Go.RowKit in
/-- (*strings.Builder).Len: "Len returns the number of accumulated bytes; b.Len() == len(b.String()).": the world is as it was. (LAID: no walk: one application.) -/
theorem Tryd.Builder_Len (B b : Nat) (bs : List Value) (w : World) (h : Lib.IsBuilder 35 5 B b bs w) :
    Calls Tryd.prog 13 #[.pointer (some ⟨b, 0, none⟩)] w fun e w' => e = .returned (.int .i64 bs.length) ∧ w' = w := Any.Builder_Len Tryd.lays170 B b bs w h
def Tryd.lays169_ren : Go.Shelf.Ren := ⟨fun | 169 => 14 | n => n, fun | 70 => 32 | 9 => 9 | 0 => 0 | 72 => 35 | 37 => 33 | 127 => 72 | 3 => 3 | 5 => 5 | n => n, fun | n => n⟩
theorem Tryd.lays169 : Go.Proofs.Lays.n169 Tryd.prog Tryd.lays169_ren := {
  mixed := by kernel_rfl
  f169 := Tryd.func14.trans (congrArg some (by kernel_rfl))
  t0 := Tryd.underlying0
  a0 := Tryd.isAgg0
  z0 := Tryd.sizeOf0
  v0 := Tryd.zeroValue0
  t3 := Tryd.underlying3
  a3 := Tryd.isAgg3
  z3 := Tryd.sizeOf3
  v3 := Tryd.zeroValue3
  t9 := Tryd.underlying9
  a9 := Tryd.isAgg9
  z9 := Tryd.sizeOf9
  v9 := Tryd.zeroValue9
  t37 := Tryd.underlying33
  a37 := Tryd.isAgg33
  z37 := Tryd.sizeOf33
  v37 := Tryd.zeroValue33
  t70 := Tryd.underlying32
  a70 := Tryd.isAgg32
  z70 := Tryd.sizeOf32
  v70 := Tryd.zeroValue32
  t72 := Tryd.underlying35
  a72 := Tryd.isAgg35
  z72 := Tryd.sizeOf35
  v72 := Tryd.zeroValue35
  t127 := Tryd.underlying72
  a127 := Tryd.isAgg72
  z127 := Tryd.sizeOf72
  v127 := Tryd.zeroValue72 }
theorem Tryd.Builder_Extra_169 : Builder.Extra Tryd.prog Tryd.lays169_ren := {
  sizeBuilder := by kernel_rfl
  liesBuilder := by kernel_rfl
  t5 := Tryd.underlying5
  a5 := Tryd.isAgg5
  z5 := Tryd.sizeOf5
  v5 := Tryd.zeroValue5
  infoByte := by kernel_rfl
  cellsByte := by kernel_rfl
  sizeByte := by kernel_rfl
  neB5 := by decide }
open Go.RowKit in
/-- (*strings.Builder).String: "String returns the accumulated string.": WHATEVER THE BUILDER HOLDS. (LAID: no walk: one application.) -/
theorem Tryd.Builder_String_any (B b : Nat) (l : List UInt8) (w : World) (h : Lib.IsBuilder 35 5 B b (Lib.byteCells l) w) (hBw : B ≤ w.heap.size) :
    Calls Tryd.prog 14 #[.pointer (some ⟨b, 0, none⟩)] w fun e w' => e = .returned (.string ⟨l.toArray⟩) ∧ Below B w w' := Any.Builder_String_any Tryd.lays169 Tryd.Builder_Extra_169 B b l w h hBw
end Go.Proofs
/- The library's functions that package asm calls: contracts of the shelf as mine; a strings.Builder as a piece of the memory. -/
set_option maxRecDepth 100000
set_option maxHeartbeats 4000000
set_option linter.unusedVariables false
set_option linter.unusedSimpArgs false
namespace Go.Proofs.YtooimjefbdokaaaDoor.Asm
open Go Go.Proofs.YtooimjefbdokaaaDoor.Eng Go.RowKit
section
variable {g : Glob} {w w0 : World} {l : List As}
def enW (x : Bs) : List Value := [.string (bs x)]
theorem FAt.up {b o : Nat} {vs : List Value} (H : Sat g w l) (h : FAt g b o vs) : FAt (froz w) b o vs := by
  obtain ⟨cs, e, fz, h1, h2⟩ := H.fat h
  exact ⟨cs, e, fz, h1, h2⟩
/-! ## strings -/
theorem splitC (H : Sat g w l) (m : Int) (hM : FAt g 0 0 [.int .i64 m]) (s : Bs) (c : UInt8) (hs : s.length ≤ 100000) : Fc Tryd.prog 16 #[.string (bs s), .string (bs [c])] w (fun v w' => ∃ xs, xs = cutC c [] s ∧ Sat g w' (Sl 9 1 enW v xs :: l)) := by
  refine Fc.ofCalls Tryd.func16 rfl (by kernel_rfl) ?_
  refine (Tryd.strings_Split (bs s) (bs [c]) m w (by rw [bs_size]; omega) ((H.fat hM).cell (i := 0) rfl) (by rw [bs_size]; exact Nat.le_refl 1)).mono ?_
  rintro e w' ⟨rfl, rfl⟩
  refine ⟨_, rfl, _, rfl, ?_⟩
  have N : New w (w.alloc (.cells ((Lib.splitB (bs [c]) 0 (Lib.countB (bs s) (bs [c])) (bs s)).map Value.string).toArray 9)) ((cutC c [] s).flatMap enW) 9 := by
    rw [splitB_is, List.map_map]
    have e : List.map (Value.string ∘ bs) (cutC c [] s) = (cutC c [] s).flatMap enW := by
      induction cutC c [] s with
      | nil => rfl
      | cons a q ih => rw [List.map_cons, ih]; rfl
    rw [e]
    exact New.mk' w _ _
  have H1 := H.new N
  rw [countC]
  exact H1.ptSl (n := (cutC c [] s).length) (en := enW) (s := 1) 0 rfl (cutC c [] s) rfl rfl (fun _ => rfl) (Nat.ble_eq_true_of_le (by have := cutC_len c s []; omega)) fun H => H
theorem cutF (H : Sat g w l) (m : Int) (hM : FAt g 0 0 [.int .i64 m]) (s : Bs) (hs : s.length ≤ 100000) : Fc Tryd.prog 17 #[.string (bs s), .string (bs [59])] w (fun v w' => ∃ t2 b, v = .tuple #[.string (bs (preS s)), .string (bs t2), .bool b] ∧ Sat g w' l) := by
  refine Fc.ofCalls Tryd.func17 rfl (by kernel_rfl) ?_
  refine (Tryd.strings_Cut (bs s) (bs [59]) m w (by rw [bs_size]; omega) ((H.fat hM).cell (i := 0) rfl)).mono ?_
  rintro e w' ⟨rfl, n, rfl⟩
  rw [bs_toL, bs_toL]
  exact ⟨_, rfl, _, _, rfl, H.below ⟨rfl, rfl, rfl, Nat.le_refl _, fun _ _ => rfl⟩⟩
/-- The elements of a slice that lie in cells. -/
theorem cells_of {v : Value} {xs : List Bs} (hne : xs ≠ []) (h : Rd enW (fun _ => True) 1 w v xs) : ∃ b o c, v = .slice (some ⟨b, o, none⟩) xs.length c ∧ xs.length ≤ c ∧ b < w.heap.size ∧ ∀ (j : Nat) (x : Bs), xs[j]? = some x → w.cell? ⟨b, o + j, none⟩ = some (.string (bs x)) := by
  obtain ⟨a, c, rfl, ⟨h1, h2⟩, _, h4⟩ := h
  obtain ⟨b, o, cs, rfl, h5, _, h7⟩ := h4 hne
  refine ⟨b, o, c, rfl, h1, ?_, fun j x hx => ?_⟩
  · obtain ⟨cs', e, fz, ⟨_, hl, _⟩, _⟩ := h5; exact hl
  · obtain ⟨k1, _⟩ := h7 j x hx
    have hat : At w b o cs := AtH.at h5
    have hj : cs[j]? = some (.string (bs x)) := by
      have : (List.take 1 (List.drop (j * 1) cs))[0]? = some (.string (bs x)) := by rw [k1]; rfl
      rw [List.getElem?_take_of_lt (by omega), List.getElem?_drop] at this
      simpa using this
    exact hat.cell hj
theorem joinF (H : Sat g w l) (v : Value) (xs : List Bs) (hx : Rd enW (fun _ => True) 1 w v xs) (hne : xs ≠ []) (hl : xs.length ≤ 100) (hm : ∀ x ∈ xs, x.length ≤ 40) : Fc Tryd.prog 10 #[v, .string (bs [32])] w (fun r w' => r = .string (bs (Lib.join xs [32])) ∧ Sat g w' l) := by
  obtain ⟨b, o, c, rfl, h1, h2, h3⟩ := cells_of hne hx
  refine Fc.ofCalls Tryd.func10 rfl (by kernel_rfl) ?_
  have hlen := join_len xs 40 hm
  have e : (xs.map bs).map (·.data.toList) = xs := by
    rw [List.map_map]; conv => rhs; rw [← List.map_id xs]
    exact List.map_congr_left fun x _ => bs_toL x
  have hk := Tryd.strings_Join b o c (xs.map bs) (bs [32]) w (fun j x hx => by
    rw [List.getElem?_map] at hx
    cases hq : xs[j]? with
    | none => rw [hq] at hx; cases hx
    | some y => rw [hq] at hx; obtain rfl := Option.some.inj hx; exact h3 j y hq) h2 (by rw [List.length_map]; omega) (by rw [List.length_map]; omega) (by rw [e, bs_toL]; omega)
  rw [List.length_map, e, bs_toL] at hk
  refine hk.mono ?_
  rintro e w' ⟨rfl, hb⟩
  exact ⟨_, rfl, rfl, H.below hb⟩
/-! ## strconv -/
/-- The table of powers lies frozen, and the errors are there. -/
structure NumF (g : Glob) : Prop where
  tab : ∀ (w : World) (l : List As), Sat g w l → Lib.TabIs Tryd.prog w "internal/strconv.uint64pow10" .u64 Lib.pow10Tab
  syn : ∃ ev, FAt g 4 0 [ev] ∧ (ev = .nilIface ∨ ∃ te pe, ev = .iface te pe)
  rng : ∃ ev, FAt g 5 0 [ev] ∧ (ev = .nilIface ∨ ∃ te pe, ev = .iface te pe)
theorem grow_below (w : World) (os : Array Obj) : Below w.heap.size w (Sort.grow w os) := ⟨rfl, rfl, rfl, by simp [Sort.grow], fun k hk => by simp [Sort.grow, Array.getElem?_append, hk]⟩
theorem formatInt (H : Sat g w l) (hN : NumF g) (n : Int) (hn : I64 n) : Fc Tryd.prog 28 #[.int .i64 n, .int .i64 10] w (fun v w' => v = .string (bs (Lib.itoa n)) ∧ Sat g w' l) := by
  refine Fc.ofCalls Tryd.func28 rfl (by kernel_rfl) ?_
  refine (Tryd.strconv_FormatInt_10 n hn.1 hn.2 w (hN.tab w l H)).mono ?_
  rintro e w' ⟨rfl, k, os, rfl⟩
  refine ⟨_, rfl, rfl, H.below ?_⟩
  have h1 : Below w.heap.size w (w.drewN k) := ⟨rfl, rfl, rfl, Nat.le_refl _, fun _ _ => rfl⟩
  have h2 := grow_below (w.drewN k) os
  exact h1.trans h2
def parsed (s : Bs) (n : Int) (v : Value) : Prop := (v = .nilIface ∧ Lib.parseIntB 64 s = .ok n) ∨ ((∃ t p, v = .iface t p) ∧ ∀ n, Lib.parseIntB 64 s ≠ .ok n)
theorem intSat_i64 (s : Bs) : I64 (Lib.intSat 64 s) := by
  unfold Lib.intSat
  split <;> (constructor <;> decide)
theorem parseInt (H : Sat g w l) (hN : NumF g) (s : Bs) (hs : s.length ≤ 100000) : Fc Tryd.prog 46 #[.string (bs s), .int .i64 10, .int .i64 64] w (fun r w' => ∃ n v, r = .tuple #[.int .i64 n, v] ∧ I64 n ∧ parsed s n v ∧ Sat g w' l) := by
  refine Fc.ofCalls Tryd.func46 rfl (by kernel_rfl) ?_
  cases hp : Lib.parseIntB 64 s with
  | ok n =>
    refine (Tryd.strconv_ParseInt_10_at64_ok (bs s) (by rw [bs_size]; omega) n (by rw [bs_toL]; exact hp) w).mono ?_
    rintro e w' ⟨rfl, hw⟩
    refine ⟨_, rfl, n, _, rfl, parse_range hp, .inl ⟨rfl, hp⟩, ?_⟩
    rcases hw with rfl | ⟨t, rfl⟩
    · exact H
    · exact H.below (Lib.bytesWorld_below w _ t)
  | «syntax» =>
    obtain ⟨ev, he, hev⟩ := hN.syn
    refine (Tryd.strconv_ParseInt_10_at64_syntax (bs s) (by rw [bs_size]; omega) (by rw [bs_toL]; exact hp) ev w ((H.fat he).cell (i := 0) rfl) hev).mono ?_
    rintro e w' ⟨N, rfl, _, _, hb⟩
    exact ⟨_, rfl, 0, _, rfl, by decide, .inr ⟨⟨_, _, rfl⟩, fun n h => by rw [hp] at h; cases h⟩, H.below hb⟩
  | range =>
    obtain ⟨ev, he, hev⟩ := hN.rng
    refine (Tryd.strconv_ParseInt_10_at64_range (bs s) (by rw [bs_size]; omega) (by rw [bs_toL]; exact hp) ev w ((H.fat he).cell (i := 0) rfl) hev).mono ?_
    rintro e w' ⟨N, rfl, _, _, hb⟩
    exact ⟨_, rfl, _, _, rfl, intSat_i64 _, .inr ⟨⟨_, _, rfl⟩, fun n h => by rw [hp] at h; cases h⟩, H.below hb⟩
/-! ## strings.Builder -/
theorem copyCheck_used (b : Nat) (w : World) (h0 : w.cell? ⟨b, 0, none⟩ = some (.pointer (some ⟨b, 0, none⟩))) :
    Calls Tryd.prog 24 #[.pointer (some ⟨b, 0, none⟩)] w fun e w' => e = .returned (.tuple #[]) ∧ w' = w := by
  obtain ⟨j, hj, _⟩ := Option.map_eq_some_iff.1 (show (Tryd.prog.info? 35).map (·.size) = some 2 by kernel_rfl)
  go_enter Tryd.func24, Tryd.ntmps24
  go_wp2
  rw [Lib.run_neq_ptr_same w _ Tryd.underlying32 hj]
  go_wp2
  go_end0
  exact ⟨rfl, rfl⟩
theorem copyCheck_fresh (b : Nat) (w : World) (h0 : w.cell? ⟨b, 0, none⟩ = some (.pointer none)) (hsh : w.shape? b = some (35, 2)) (hfz : w.frozen? ⟨b, 0, none⟩ = false) :
    Calls Tryd.prog 24 #[.pointer (some ⟨b, 0, none⟩)] w fun e w' => e = .returned (.tuple #[]) ∧ w' = w.setCell ⟨b, 0, none⟩ (.pointer (some ⟨b, 0, none⟩)) := by
  obtain ⟨j, hj, hjs⟩ := Option.map_eq_some_iff.1 (show (Tryd.prog.info? 35).map (·.size) = some 2 by kernel_rfl)
  go_enter Tryd.func24, Tryd.ntmps24
  go_wp2
  rw [Lib.run_to_unsafe w ⟨b, 0, none⟩ Tryd.underlying32 Tryd.underlying86 hj (by rw [hjs]; decide) hsh (Nat.zero_lt_succ 1)]
  simp only [Result.andThen]
  rw [Oper.upon_value]
  go_wp2
  rw [run_callFunc_extern Tryd.func38 (by kernel_rfl) (by kernel_rfl) (by kernel_rfl) (e := Extern.AbiNoEscape.same) (by kernel_rfl)]
  rw [Lib.run_noEscape]
  simp only [Result.andThen]
  rw [Oper.upon_value]
  go_wp2
  rw [Lib.run_from_unsafe w ⟨b, 0, none⟩ Tryd.underlying86 Tryd.underlying32 hj hsh (by kernel_rfl)]
  simp only [Result.andThen]
  rw [Oper.upon_value]
  go_wp2
  go_end0
  exact ⟨rfl, rfl⟩
/-- copyCheck: behind it the builder points to itself. -/
theorem copyCheck (b : Nat) (q v : Value) (H : Sat g w (Pt b [q, v] 35 :: l)) (hq : q = .pointer none ∨ q = .pointer (some ⟨b, 0, none⟩)) : Fc Tryd.prog 24 #[.pointer (some ⟨b, 0, none⟩)] w (fun r w' => r = .tuple #[] ∧ Sat g w' (Pt b [.pointer (some ⟨b, 0, none⟩), v] 35 :: l)) := by
  have hb := (H.pt (j := 0) rfl)
  have hblk : w.heap[b]? = some (.cells #[q, v] 35 (0, 0)) := hb
  refine Fc.ofCalls Tryd.func24 rfl (by kernel_rfl) ?_
  rcases hq with rfl | rfl
  · refine (copyCheck_fresh b w (by rw [Lib.cell_of_heap hblk]; rfl) (by simp [World.shape?, hblk]) (by simp [World.frozen?, hblk])).mono ?_
    rintro e w' ⟨rfl, rfl⟩
    refine ⟨_, rfl, rfl, ?_⟩
    refine H.upd (j := 0) rfl ⟨rfl, rfl, rfl, by simp, fun k hk => heap_setCell_other w _ k _ hk⟩ ?_
    have := heap_setCell_same w b 0 _ 35 (.pointer (some ⟨b, 0, none⟩)) hblk
    simp at this
    exact this
  · refine (copyCheck_used b w (by rw [Lib.cell_of_heap hblk]; rfl)).mono ?_
    rintro e w' ⟨rfl, rfl⟩
    exact ⟨_, rfl, rfl, H⟩
theorem liesOff {P : Program} {e : TypeId} (hc : P.cellsOf e = 1) (count off n : Nat) (hn : off + n ≤ count) : liesAt P P.depth e count off e n = true := by
  have hd : P.depth = (2 * (P.types.size + Made.depth) + 1) + 1 := rfl
  rw [hd]
  simp only [liesAt, Bool.or_eq_true]
  left
  rw [hd]
  simp [rowAt, hc, hn, sameLayout, Nat.mod_one]
theorem run_uString {P : Program} (pt it ty e : TypeId) (hp : P.underlying pt = some (.pointer e)) (hc : P.cellsOf e = 1) (b o cells : Nat) (hsh : w.shape? b = some (e, cells)) (xs : Bs) (h0 : xs ≠ []) (hn : o + xs.length ≤ cells) (h63 : xs.length ≤ 9223372036854775807)
    (hcell : ∀ j x, xs[j]? = some x → w.cell? ((⟨b, o, none⟩ : Addr).add j) = some (.int .u8 x.toNat)) :
    (Builtin.unsafeString_ #[pt, it] ty #[.pointer (some ⟨b, o, none⟩), .int .i64 xs.length]).run P w = .ok (.string (bs xs)) (w.freeze ⟨b, o, none⟩ xs.length) := by
  have hl : xs.length ≠ 0 := by simpa using h0
  have hlb := Lib.run_loadBytes (P := P) w xs ⟨b, o, none⟩ .empty hcell
  have hlies := liesOff (P := P) hc (cells / P.cellsOf e) o xs.length (by rw [hc]; simpa using hn)
  have h63' : ¬ (9223372036854775807 : Int) < (xs.length : Int) := by omega
  have hmax : IntKind.i64.max = 9223372036854775807 := rfl
  have hneg : ¬ (xs.length : Int) < 0 := by omega
  have hm : ∀ (a : Option Addr) (v : Value) (h1 : Option Addr → Value → Sem Value) (h2 : Array Value → Sem Value), Builtin.unsafeString_.match_3 (fun _ => Sem Value) #[.pointer a, v] h1 h2 = h1 a v := fun _ _ _ _ => rfl
  delta Builtin.unsafeString_
  rw [hm]
  simp [asInt, asIntOf, hmax, h63', hneg, hl, variablesAt, hsh, elemOf, run_underlying hp, hlies, hlb, bs]
/-- unsafe.SliceData of a row that is not empty. -/
theorem rSliceData {P : Program} {K : Value → World → Prop} {ts : Array TypeId} {ty : TypeId} {a : Addr} {n c : Nat} (hc : c ≠ 0) (k : K (.pointer (some a)) w) : RunP P (Builtin.unsafeSliceData_ ts ty #[.slice (some a) n c]) w K :=
  ⟨_, _, Lib.run_unsafeSliceData_row w ts ty a n c hc, k⟩
/-- unsafe.String over a row of one's own: the row is given away. -/
theorem rUString {P : Program} {K : Value → World → Prop} {pt it ty e : TypeId} {b o c : Nat} {n : Int} {xs : Bs} (H : Sat g w l) (j : Nat) (hj : l[j]? = some (Sl e 1 enY (.slice (some ⟨b, o, none⟩) xs.length c) xs)) (h0 : xs ≠ []) (hn : n = xs.length) (hp : P.underlying pt = some (.pointer e)) (hc : P.cellsOf e = 1)
    (k : delA l j fun l' => ∀ w', Sat g w' l' → K (.string (bs xs)) w') : RunP P (Builtin.unsafeString_ #[pt, it] ty #[.pointer (some ⟨b, o, none⟩), .int .i64 n]) w K := by
  subst hn
  rw [delA_eq] at k
  rcases (H.off j hj).1 with ⟨h, _⟩ | ⟨g', o', cap, cur, he, hlo, hb, hfit, hnc, hcm, ht⟩
  · cases h
  · injection he with h1 h2 h3
    injection h1 with h1
    injection h1 with h1 h4
    subst h1; subst h4; subst h3
    have hb' : w.heap[b]? = some (.cells cur.toArray e (0, 0)) := hb
    have hrd := H.rdo j hj (ok := fun _ => True) (fun _ _ => trivial)
    have hcell : ∀ (q : Nat) (x : UInt8), xs[q]? = some x → w.cell? ((⟨b, o, none⟩ : Addr).add q) = some (.int .u8 x.toNat) := by
      intro q x hq
      have hql := (List.getElem?_eq_some_iff.1 hq).1
      have hp2 := flat_part (H.off j hj).2 xs q x hq
      have hx0 : (List.take 1 (List.drop (q * 1) (xs.flatMap enY)))[0]? = some (.int .u8 (x.toNat : Int)) := by rw [hp2]; rfl
      rw [List.getElem?_take_of_lt (by omega), List.getElem?_drop, ← ht, List.getElem?_take_of_lt (by omega), List.getElem?_drop] at hx0
      rw [Addr.add_lit]
      have := hb.at.cell (i := o + q) (v := .int .u8 (x.toNat : Int)) (by rw [← hx0]; congr 1; omega)
      simpa using this
    have hr := run_uString (w := w) (P := P) pt it ty e hp hc b o cur.length (by simp [World.shape?, hb']) xs h0 (by omega) (by omega) hcell
    refine ⟨_, _, hr, k _ ?_⟩
    have hfb : ∀ q, q ≠ b → (w.freeze ⟨b, o, none⟩ xs.length).heap[q]? = w.heap[q]? := by
      intro q hq
      unfold World.freeze
      split
      · rfl
      · simp only [Array.getElem?_modify]; rw [if_neg (fun h => hq h.symm)]
    have hos : (w.freeze ⟨b, o, none⟩ xs.length).os = w.os ∧ (w.freeze ⟨b, o, none⟩ xs.length).tape = w.tape ∧ (w.freeze ⟨b, o, none⟩ xs.length).output = w.output := by
      unfold World.freeze; split <;> exact ⟨rfl, rfl, rfl⟩
    have H2 := H.step (A' := fun h => ∀ q, h q = none) hj hos.1 hos.2.1 hos.2.2 fun a ha hs => ⟨fun _ => none, fun _ => rfl, (fun _ _ h => by cases h), fun q hq hn => ⟨rfl, hfb q fun h => by
      have := ha.dom (k := b) rfl
      exact this (h ▸ hn)⟩⟩
    have H3 := H2.del j
    rw [show (l.set j fun h => ∀ q, h q = none).eraseIdx j = l.eraseIdx j by
      apply List.ext_getElem?
      intro i
      simp only [List.getElem?_eraseIdx, List.getElem?_set]
      by_cases hi : i < j
      · rw [if_pos hi, if_pos hi, if_neg (by omega)]
      · rw [if_neg hi, if_neg hi, if_neg (by omega)]] at H3
    exact H3
end
end Go.Proofs.YtooimjefbdokaaaDoor.Asm
/- asm.Name. -/
set_option maxRecDepth 100000
set_option maxHeartbeats 4000000
set_option linter.unusedVariables false
set_option linter.unusedSimpArgs false
namespace Go.Proofs.YtooimjefbdokaaaDoor.Asm
open Go Go.Proofs.YtooimjefbdokaaaDoor.Eng Go.RowKit
section
variable {g : Glob} {w : World} {l : List As}
def enR (x : Nat × List UInt8 × List UInt8) : List Value := [.int .u8 x.1, .string (bs x.2.1), .string (bs x.2.2)]
def enT (x : List UInt8) : List Value := [.string (bs x)]
theorem rows (w : World) : Fc Tryd.prog 30 #[] w (fun v w' => ∃ q, q = rowsL ∧ Sat (froz w) w' [Sl 76 3 enR v q]) := by
  refine Fc.of Tryd.func30 rfl (by kernel_rfl) ?_
  have H := Sat.start w
  refine rBuild rfl rfl rfl ?_
  refine rBuild rfl rfl rfl ?_
  refine rBuild rfl rfl rfl ?_
  refine rBuild rfl rfl rfl ?_
  refine rBuild rfl rfl rfl ?_
  refine rBuild rfl rfl rfl ?_
  refine rBuild rfl rfl rfl ?_
  refine rBuild rfl rfl rfl ?_
  refine rBuild rfl rfl rfl ?_
  refine rBuild rfl rfl rfl ?_
  refine rBuild rfl rfl rfl ?_
  refine rBuild rfl rfl rfl ?_
  refine rBuild rfl rfl rfl ?_
  refine rBuild rfl rfl rfl ?_
  refine rBuild rfl rfl rfl ?_
  refine rBuild rfl rfl rfl ?_
  refine rBuild rfl rfl rfl ?_
  refine rBuildSliceS H rfl rfl rfl rfl ?_
  clear H
  intro p1 w1 H
  refine H.ptSl (n := 17) (en := enR) (s := 3) 0 rfl rowsL rfl rfl (fun _ => rfl) rfl ?_
  clear H
  intro H
  exact Done.mk ⟨_, rfl, H⟩
theorem split (H : Sat g w l) (m : Int) (hM : FAt g 0 0 [.int .i64 m]) (r : Nat × List UInt8 × List UInt8) (hr : r ∈ rowsL) : Fc Tryd.prog 16 #[.string (bs r.2.2), .string (bs [32])] w (fun v w' => Sat g w' (Sl 9 1 enT v (piecesL r.2.2) :: l)) := by
  have hb := (rowsL_ok r hr).2.2.1
  refine Fc.ofCalls Tryd.func16 rfl (by kernel_rfl) ?_
  refine (Tryd.strings_Split (bs r.2.2) (bs [32]) m w (by rw [bs_size]; omega) ((H.fat hM).cell (i := 0) rfl) (by rw [bs_size]; exact Nat.le_refl 1)).mono ?_
  rintro e w' ⟨rfl, rfl⟩
  refine ⟨_, rfl, ?_⟩
  have N : New w (w.alloc (.cells ((Lib.splitB (bs [32]) 0 (Lib.countB (bs r.2.2) (bs [32])) (bs r.2.2)).map Value.string).toArray 9)) ((piecesL r.2.2).flatMap enT) 9 := by
    rw [split_is r hr, List.map_map]
    have e : List.map (Value.string ∘ bs) (piecesL r.2.2) = (piecesL r.2.2).flatMap enT := by
      induction piecesL r.2.2 with
      | nil => rfl
      | cons a q ih => rw [List.map_cons, ih]; rfl
    rw [e]
    exact New.mk' w _ _
  have H1 := H.new N
  rw [count_is r hr]
  exact H1.ptSl (n := (piecesL r.2.2).length) (en := enT) (s := 1) 0 rfl (piecesL r.2.2) rfl rfl (fun _ => rfl) (Nat.ble_eq_true_of_le (by have := (rowsL_ok r hr).2.2.2; omega)) fun H => H
theorem row_at {i : Nat} {x : Nat × List UInt8 × List UInt8} (hx : rowsL[i]? = some x) : rowsL.drop i = x :: rowsL.drop (i + 1) := by
  have h := (List.getElem?_eq_some_iff.1 hx)
  rw [List.drop_eq_getElem_cons h.1, h.2]
theorem rows_len {q : List (Nat × List UInt8 × List UInt8)} (h : q = rowsL) : q.length = 17 := by subst h; rfl
theorem name (H : Sat g w l) (m : Int) (hM : FAt g 0 0 [.int .i64 m]) (n : Nat) (hn : n ≤ 255) : Fc Tryd.prog 26 #[.int .u8 n] w (fun v w' => ∃ s b, v = .tuple #[.string (bs s), .bool b] ∧ (s, b) = nameR n ∧ Sat g w' l) := by
  refine Fc.of Tryd.func26 rfl (by kernel_rfl) ?_
  refine CallP.mk (Fc.imp (Go.Proofs.YtooimjefbdokaaaDoor.Asm.rows _) ?_)
  rintro v' w1 ⟨q1, ⟨h1, H'⟩⟩
  refine H.mergeK H' ?_
  clear H H'
  intro H
  have hq := rows_len ‹_ = rowsL›
  refine rLenS H 0 rfl rfl ?_
  refine LoopP.rule (α := Nat) (0) (fun x_ => [(10, .int .i64 x_)]) (fun x_ w_ => (x_ ≤ 17) ∧ (nameIn (rowsL.drop x_) n = nameR n) ∧ Sat g w_ ((Sl 76 3 enR v' q1 :: l))) (fun x_ => 17 - x_) ?_ ?_ ?_
  · repeat first | exact mt_nil | refine mt_cons rfl ?_ | refine mt_i rfl (by first | omega | (simp only; omega) | (simp; omega) | (simp; done)) ?_
  · try simp only
    refine ⟨?_, ?_⟩
    · omega
    refine ⟨?_, ?_⟩
    · rfl
    exact H
  clear H
  rintro i f_ w_ ⟨hi, hno, H⟩
  try simp only at hi hno H ⊢
  rcases Nat.lt_or_ge i 17 with hlt | hge
  · obtain ⟨rr, hx⟩ : ∃ r, q1[i]? = some r := ⟨_, List.getElem?_eq_getElem (by rw [hq]; exact hlt)⟩
    have hm := rowsL_ok rr (List.mem_of_getElem? (h1 ▸ hx))
    rw [row_at (h1 ▸ hx)] at hno
    by_cases hin : rr.1 ≤ n ∧ n - rr.1 < (piecesL rr.2.2).length
    · obtain ⟨y, hy⟩ : ∃ y, (piecesL rr.2.2)[n - rr.1]? = some y := ⟨_, List.getElem?_eq_getElem hin.2⟩
      have hyl := pieces_len rr (List.mem_of_getElem? (h1 ▸ hx)) y (List.mem_of_getElem? hy)
      refine cT (vLt_T (by omega)) ?_
      refine bk ?_
      obtain ⟨b1, o1, E1⟩ := H.elt 0 rfl (i) (by omega)
      refine rIxE E1 rfl rfl rfl ?_
      refine rLdA (H.el 0 rfl E1 hx) 0 rfl rfl rfl ?_
      refine rAllocS H rfl ?_
      clear H
      intro p1 w2 H
      clear w_
      refine rStAS H 0 rfl rfl rfl rfl ?_
      clear H
      intro w3 H
      clear w2
      refine rFieldAt rfl ?_
      refine rLd (H.at 0 rfl) 2 rfl rfl rfl ?_
      refine CallP.mk (Fc.imp (Go.Proofs.YtooimjefbdokaaaDoor.Asm.split H _ hM _ ?_) ?_)
      · exact List.mem_of_getElem? (h1 ▸ hx)
      clear H
      rintro va' w2 H
      refine rConvI64 (by omega) rfl rfl ?_
      refine rFieldAt rfl ?_
      refine rLd (H.at 1 rfl) 0 rfl rfl rfl ?_
      refine rConvI64 (by omega) rfl rfl ?_
      refine eqI64 (by omega) ?_
      refine br_t (vLe_T (by omega)) ?_
      refine rLenS H 0 rfl rfl ?_
      refine cT (vLt_T (by omega)) ?_
      refine drawzS H [] [(0, .pure), (1, .held), (2, .pure), (3, .pure), (4, .pure), (5, .held), (6, .pure), (7, .pure), (8, .pure)] mixed (by kernel_rfl) (by kernel_rfl) ?_
      clear H
      intro w4 H
      clear w2
      refine tk (fun wx HS => rFieldAt rfl ⟨rfl, rfl⟩) ?_
      refine tk (fun wx HS => rLd (HS.at 1 rfl) 1 rfl rfl rfl ⟨rfl, rfl⟩) ?_
      obtain ⟨b2, o2, E2⟩ := H.elt 0 rfl ((n) - (rr.fst)) (by omega)
      refine tk (fun wx HS => rIxE E2 (by omega) rfl rfl ⟨rfl, rfl⟩) ?_
      refine tk (fun wx HS => rLd (HS.el 0 rfl E2 hy) 0 rfl rfl rfl ⟨rfl, rfl⟩) ?_
      refine tk (fun wx HS => rCat (by omega) ⟨rfl, rfl⟩) ?_
      refine Done.mk ?_
      refine ⟨rr.snd.fst ++ y, true, ?_⟩
      refine ⟨?_, ?_⟩
      · rfl
      refine ⟨?_, ?_⟩
      · (rw [← hno, nameIn_hit hin.1 hy])
      refine H.drop 2 ?_
      clear H
      intro H
      refine H.drop 1 ?_
      clear H
      intro H
      refine H.drop 0 ?_
      clear H
      intro H
      exact H
    · refine cT (vLt_T (by omega)) ?_
      refine bk ?_
      obtain ⟨b1, o1, E1⟩ := H.elt 0 rfl (i) (by omega)
      refine rIxE E1 rfl rfl rfl ?_
      refine rLdA (H.el 0 rfl E1 hx) 0 rfl rfl rfl ?_
      refine rAllocS H rfl ?_
      clear H
      intro p1 w2 H
      clear w_
      refine rStAS H 0 rfl rfl rfl rfl ?_
      clear H
      intro w3 H
      clear w2
      refine rFieldAt rfl ?_
      refine rLd (H.at 0 rfl) 2 rfl rfl rfl ?_
      refine CallP.mk (Fc.imp (Go.Proofs.YtooimjefbdokaaaDoor.Asm.split H _ hM _ ?_) ?_)
      · exact List.mem_of_getElem? (h1 ▸ hx)
      clear H
      rintro va' w2 H
      refine rConvI64 (by omega) rfl rfl ?_
      refine rFieldAt rfl ?_
      refine rLd (H.at 1 rfl) 0 rfl rfl rfl ?_
      refine rConvI64 (by omega) rfl rfl ?_
      refine eqI64 (by omega) ?_
      refine br (fun c1 => ?_) (fun c1 => ?_)
      · replace c1 := vLe_t (c1)
        refine rLenS H 0 rfl rfl ?_
        refine cF (vLt_F (by omega)) ?_
        refine eqI64 (by omega) ?_
        refine Nxt.mk (i + 1) (mt_i rfl (by first | omega | (simp only; omega) | (simp; omega)) (mt_nil)) ?_ ?_
        · refine ⟨?_, ?_⟩
          · assumption
          refine ⟨?_, ?_⟩
          · (rw [← hno]; exact (nameIn_miss hin).symm)
          refine H.fronts [2] ?_
          clear H
          intro H
          refine H.drop 2 ?_
          clear H
          intro H
          refine H.drop 1 ?_
          clear H
          intro H
          exact H
        omega
      replace c1 := vLe_f (c1)
      refine cF rfl ?_
      refine eqI64 (by omega) ?_
      refine Nxt.mk (i + 1) (mt_i rfl (by first | omega | (simp only; omega) | (simp; omega)) (mt_nil)) ?_ ?_
      · refine ⟨?_, ?_⟩
        · assumption
        refine ⟨?_, ?_⟩
        · (rw [← hno]; exact (nameIn_miss hin).symm)
        refine H.fronts [2] ?_
        clear H
        intro H
        refine H.drop 2 ?_
        clear H
        intro H
        refine H.drop 1 ?_
        clear H
        intro H
        exact H
      omega
  · obtain rfl : i = 17 := by omega
    refine cF (vLt_F (by omega)) ?_
    refine Done.mk ?_
    refine ⟨[], false, ?_⟩
    refine ⟨?_, ?_⟩
    · rfl
    refine ⟨?_, ?_⟩
    · exact hno
    refine H.drop 0 ?_
    clear H
    intro H
    exact H
end
end Go.Proofs.YtooimjefbdokaaaDoor.Asm
/- Package asm: a builder's methods, beside, words. -/
set_option maxRecDepth 100000
set_option maxHeartbeats 4000000
set_option linter.unusedVariables false
set_option linter.unusedSimpArgs false
namespace Go.Proofs.YtooimjefbdokaaaDoor.Asm
open Go Go.Proofs.YtooimjefbdokaaaDoor.Eng Go.RowKit
open Ins Nest
section
variable {g : Glob} {w : World} {l : List As}
theorem beside (o : Int) (w : World) : Fc Tryd.prog 29 #[.int .u8 o] w (fun v w' => (∃ r, v = .int .i64 r ∧ r = besN o) ∧ w = w') := by
  refine Fc.of Tryd.func29 rfl (by kernel_rfl) ?_
  have H := Sat.start w
  refine bk ?_
  refine br (fun c1 => ?_) (fun c1 => ?_)
  · replace c1 := vLe_t (c1)
    refine cI (fun c2 => ?_) (fun c2 => ?_)
    · replace c2 := vLe_t (c2)
      refine Done.mk ?_
      refine ⟨?_, ?_⟩
      · refine ⟨-1, ?_⟩
        refine ⟨?_, ?_⟩
        · refine int_eq ?_
          omega
        (unfold besN; repeat first | rw [if_pos (by omega)] | rw [if_neg (by omega)])
      rfl
    replace c2 := vLe_f (c2)
    refine cI (fun c3 => ?_) (fun c3 => ?_)
    · replace c3 := vEq_t (c3)
      refine Done.mk ?_
      refine ⟨?_, ?_⟩
      · refine ⟨-2, ?_⟩
        refine ⟨?_, ?_⟩
        · refine int_eq ?_
          omega
        (unfold besN; repeat first | rw [if_pos (by omega)] | rw [if_neg (by omega)])
      rfl
    replace c3 := vEq_f (c3)
    refine CallP.mk (Fc.imp (Go.Proofs.YtooimjefbdokaaaDoor.Ins.width _ _) ?_)
    rintro _ _ ⟨⟨r1, ⟨rfl, h1⟩⟩, rfl⟩
    refine cI (fun c4 => ?_) (fun c4 => ?_)
    · replace c4 := vLt_t (c4)
      refine Done.mk ?_
      refine ⟨?_, ?_⟩
      · refine ⟨2, ?_⟩
        refine ⟨?_, ?_⟩
        · refine int_eq ?_
          omega
        (unfold besN; repeat first | rw [if_pos (by omega)] | rw [if_neg (by omega)])
      rfl
    replace c4 := vLt_f (c4)
    refine cI (fun c5 => ?_) (fun c5 => ?_)
    · replace c5 := vEq_t (c5)
      refine cT (vEq_T (by assumption)) ?_
      refine Done.mk ?_
      refine ⟨?_, ?_⟩
      · refine ⟨1, ?_⟩
        refine ⟨?_, ?_⟩
        · refine int_eq ?_
          omega
        (unfold besN; repeat first | rw [if_pos (by omega)] | rw [if_neg (by omega)])
      rfl
    replace c5 := vEq_f (c5)
    refine cI (fun c6 => ?_) (fun c6 => ?_)
    · replace c6 := vEq_t (c6)
      refine cT (vEq_T (by assumption)) ?_
      refine Done.mk ?_
      refine ⟨?_, ?_⟩
      · refine ⟨1, ?_⟩
        refine ⟨?_, ?_⟩
        · refine int_eq ?_
          omega
        (unfold besN; repeat first | rw [if_pos (by omega)] | rw [if_neg (by omega)])
      rfl
    replace c6 := vEq_f (c6)
    refine cI (fun c7 => ?_) (fun c7 => ?_)
    · replace c7 := vEq_t (c7)
      refine cT (vEq_T (by assumption)) ?_
      refine Done.mk ?_
      refine ⟨?_, ?_⟩
      · refine ⟨1, ?_⟩
        refine ⟨?_, ?_⟩
        · refine int_eq ?_
          omega
        (unfold besN; repeat first | rw [if_pos (by omega)] | rw [if_neg (by omega)])
      rfl
    replace c7 := vEq_f (c7)
    refine cI (fun c8 => ?_) (fun c8 => ?_)
    · replace c8 := vEq_t (c8)
      refine cT (vEq_T (by assumption)) ?_
      refine Done.mk ?_
      refine ⟨?_, ?_⟩
      · refine ⟨1, ?_⟩
        refine ⟨?_, ?_⟩
        · refine int_eq ?_
          omega
        (unfold besN; repeat first | rw [if_pos (by omega)] | rw [if_neg (by omega)])
      rfl
    replace c8 := vEq_f (c8)
    refine br (fun c9 => ?_) (fun c9 => ?_)
    · replace c9 := vLe_t (c9)
      refine cI (fun c10 => ?_) (fun c10 => ?_)
      · replace c10 := vLe_t (c10)
        refine cT (vLe_T (by assumption)) ?_
        refine Done.mk ?_
        refine ⟨?_, ?_⟩
        · refine ⟨1, ?_⟩
          refine ⟨?_, ?_⟩
          · refine int_eq ?_
            omega
          (unfold besN; repeat first | rw [if_pos (by omega)] | rw [if_neg (by omega)])
        rfl
      replace c10 := vLe_f (c10)
      refine cI (fun c11 => ?_) (fun c11 => ?_)
      · replace c11 := vEq_t (c11)
        refine cT (vEq_T (by assumption)) ?_
        refine Done.mk ?_
        refine ⟨?_, ?_⟩
        · refine ⟨1, ?_⟩
          refine ⟨?_, ?_⟩
          · refine int_eq ?_
            omega
          (unfold besN; repeat first | rw [if_pos (by omega)] | rw [if_neg (by omega)])
        rfl
      replace c11 := vEq_f (c11)
      refine cI (fun c12 => ?_) (fun c12 => ?_)
      · replace c12 := vEq_t (c12)
        refine Done.mk ?_
        refine ⟨?_, ?_⟩
        · refine ⟨1, ?_⟩
          refine ⟨?_, ?_⟩
          · refine int_eq ?_
            omega
          (unfold besN; repeat first | rw [if_pos (by omega)] | rw [if_neg (by omega)])
        rfl
      replace c12 := vEq_f (c12)
      refine Done.mk ?_
      refine ⟨?_, ?_⟩
      · refine ⟨0, ?_⟩
        refine ⟨?_, ?_⟩
        · refine int_eq ?_
          omega
        (unfold besN; repeat first | rw [if_pos (by omega)] | rw [if_neg (by omega)])
      rfl
    replace c9 := vLe_f (c9)
    refine cF rfl ?_
    refine cF (vEq_F (by omega)) ?_
    refine cF (vEq_F (by omega)) ?_
    refine Done.mk ?_
    refine ⟨?_, ?_⟩
    · refine ⟨0, ?_⟩
      refine ⟨?_, ?_⟩
      · refine int_eq ?_
        omega
      (unfold besN; repeat first | rw [if_pos (by omega)] | rw [if_neg (by omega)])
    rfl
  replace c1 := vLe_f (c1)
  refine cF rfl ?_
  refine cF (vEq_F (by omega)) ?_
  refine CallP.mk (Fc.imp (Go.Proofs.YtooimjefbdokaaaDoor.Ins.width _ _) ?_)
  rintro _ _ ⟨⟨r1, ⟨rfl, h1⟩⟩, rfl⟩
  refine cI (fun c2 => ?_) (fun c2 => ?_)
  · replace c2 := vLt_t (c2)
    refine Done.mk ?_
    refine ⟨?_, ?_⟩
    · refine ⟨2, ?_⟩
      refine ⟨?_, ?_⟩
      · refine int_eq ?_
        omega
      (unfold besN; repeat first | rw [if_pos (by omega)] | rw [if_neg (by omega)])
    rfl
  replace c2 := vLt_f (c2)
  refine cF (vEq_F (by omega)) ?_
  refine cF (vEq_F (by omega)) ?_
  refine cF (vEq_F (by omega)) ?_
  refine cF (vEq_F (by omega)) ?_
  refine br_f (vLe_F (by omega)) ?_
  refine cF rfl ?_
  refine cF (vEq_F (by omega)) ?_
  refine cF (vEq_F (by omega)) ?_
  refine Done.mk ?_
  refine ⟨?_, ?_⟩
  · refine ⟨0, ?_⟩
    refine ⟨?_, ?_⟩
    · refine int_eq ?_
      omega
    (unfold besN; repeat first | rw [if_pos (by omega)] | rw [if_neg (by omega)])
  rfl
theorem bLen (b : Nat) (q v : Value) (xs : Bs) (H : Sat g w (Pt b [q, v] 35 :: Sl 5 1 enY v xs :: l)) : Fc Tryd.prog 13 #[.pointer (some ⟨b, 0, none⟩)] w (fun r w' => r = .int .i64 (xs.length : Int) ∧ Sat g w' (Pt b [q, v] 35 :: Sl 5 1 enY v xs :: l)) := by
  refine Fc.of Tryd.func13 rfl (by kernel_rfl) ?_
  refine rFieldAt rfl ?_
  refine rLd (H.at 0 rfl) 1 rfl rfl rfl ?_
  refine rLenS H 1 rfl rfl ?_
  refine Done.mk ?_
  exact ⟨rfl, H⟩
theorem bWriteS (b : Nat) (q v : Value) (xs s : Bs) (H : Sat g w (Pt b [q, v] 35 :: Sl 5 1 enY v xs :: l)) (hq : q = .pointer none ∨ q = .pointer (some ⟨b, 0, none⟩)) (hl : xs.length ≤ 1000000) (hs : s.length ≤ 1000000) : Fc Tryd.prog 9 #[.pointer (some ⟨b, 0, none⟩), .string (bs s)] w (fun r w' => ∃ v', r = .tuple #[.int .i64 (s.length : Int), .nilIface] ∧ Sat g w' (Pt b [.pointer (some ⟨b, 0, none⟩), v'] 35 :: Sl 5 1 enY v' (xs ++ s) :: l)) := by
  refine Fc.of Tryd.func9 rfl (by kernel_rfl) ?_
  refine CallP.mk (Fc.imp (Go.Proofs.YtooimjefbdokaaaDoor.Asm.copyCheck (b) _ _ H ?_) ?_)
  · assumption
  clear H
  rintro _ w1 ⟨rfl, H⟩
  refine rFieldAt rfl ?_
  refine rLd (H.at 0 rfl) 1 rfl rfl rfl ?_
  refine rApStr H 1 rfl rfl rfl rfl (by omega) ?_
  intro v1
  clear H
  intro w2 H
  clear w1
  refine rFieldAt rfl ?_
  refine rStS H 0 rfl rfl rfl (H.one 1 rfl) ?_
  clear H
  intro w1 H
  clear w2
  refine rLenStr rfl ?_
  refine Done.mk ?_
  refine ⟨v1, ?_⟩
  refine ⟨?_, ?_⟩
  · rfl
  exact H
theorem bWriteB (b : Nat) (q v : Value) (xs : Bs) (H : Sat g w (Pt b [q, v] 35 :: Sl 5 1 enY v xs :: l)) (hq : q = .pointer none ∨ q = .pointer (some ⟨b, 0, none⟩)) (hl : xs.length ≤ 1000000) : Fc Tryd.prog 12 #[.pointer (some ⟨b, 0, none⟩), .int .u8 10] w (fun r w' => ∃ v', r = .nilIface ∧ Sat g w' (Pt b [.pointer (some ⟨b, 0, none⟩), v'] 35 :: Sl 5 1 enY v' (xs ++ [10]) :: l)) := by
  refine Fc.of Tryd.func12 rfl (by kernel_rfl) ?_
  refine CallP.mk (Fc.imp (Go.Proofs.YtooimjefbdokaaaDoor.Asm.copyCheck (b) _ _ H ?_) ?_)
  · assumption
  clear H
  rintro _ w1 ⟨rfl, H⟩
  refine rFieldAt rfl ?_
  refine rLd (H.at 0 rfl) 1 rfl rfl rfl ?_
  refine rBuildSliceS H rfl rfl rfl rfl ?_
  clear H
  intro p1 w2 H
  clear w1
  have hbk1 := byteIs (x := 10) (n := 10) (by omega)
  rw [hbk1] at H
  clear hbk1
  refine rApS (ys := [_]) 1 H 2 rfl (H.at 0 rfl) rfl (fun y _ => rfl) rfl rfl rfl (by omega) (by omega) ?_
  intro v1
  clear H
  intro w1 H
  clear w2
  refine rFieldAt rfl ?_
  refine rStS H 1 rfl rfl rfl (H.one 2 rfl) ?_
  clear H
  intro w2 H
  clear w1
  refine Done.mk ?_
  refine ⟨v1, ?_⟩
  refine ⟨?_, ?_⟩
  · rfl
  refine H.fronts [2, 2] ?_
  clear H
  intro H
  refine H.drop 2 ?_
  clear H
  intro H
  exact H
theorem bString (b : Nat) (q v : Value) (xs : Bs) (H : Sat g w (Pt b [q, v] 35 :: Sl 5 1 enY v xs :: l)) (h0 : xs ≠ []) : Fc Tryd.prog 14 #[.pointer (some ⟨b, 0, none⟩)] w (fun r w' => r = .string (bs xs) ∧ Sat g w' (Pt b [q, v] 35 :: l)) := by
  obtain ⟨g1, o1, c1, rfl, hc1⟩ : ∃ g1 o1 c1, v = .slice (some ⟨g1, o1, none⟩) xs.length c1 ∧ c1 ≠ 0 := by
    rcases (H.off 1 rfl).1 with ⟨h, h'⟩ | ⟨g', o', cap, cur, he, hlo, hb, hfit, hnc, hcm, ht⟩
    · exact absurd h' h0
    · have : 0 < xs.length := List.length_pos_iff.2 h0
      exact ⟨g', o', cap, he, by omega⟩
  refine Fc.of Tryd.func14 rfl (by kernel_rfl) ?_
  refine drawzS H [] [(0, .pure), (1, .pure), (2, .pure), (3, .held), (5, .pure), (6, .pure), (7, .pure), (8, .held), (9, .pure), (4, .forced), (10, .free), (11, .pure)] mixed (by kernel_rfl) (by kernel_rfl) ?_
  clear H
  intro w1 H
  refine tk (fun wx HS => rFieldAt rfl ⟨rfl, rfl⟩) ?_
  refine tk (fun wx HS => rLd (HS.at 0 rfl) 1 rfl rfl rfl ⟨rfl, rfl⟩) ?_
  refine tk (fun wx HS => rFieldAt rfl ⟨rfl, rfl⟩) ?_
  refine tk (fun wx HS => rLd (HS.at 0 rfl) 1 rfl rfl rfl ⟨rfl, rfl⟩) ?_
  refine tk (fun wx HS => rLenSl rfl ⟨rfl, rfl⟩) ?_
  refine rSliceData hc1 ?_
  refine KeepP.mk (H) ?_
  refine rUString H 1 rfl h0 rfl rfl (by kernel_rfl) ?_
  clear H
  intro w9 H
  refine Done.mk ?_
  exact ⟨rfl, H⟩
end
end Go.Proofs.YtooimjefbdokaaaDoor.Asm
/- Package asm: words. -/
set_option maxRecDepth 100000
set_option maxHeartbeats 4000000
set_option linter.unusedVariables false
set_option linter.unusedSimpArgs false
namespace Go.Proofs.YtooimjefbdokaaaDoor.Asm
open Go Go.Proofs.YtooimjefbdokaaaDoor.Eng Go.RowKit
open Ins Nest
section
variable {g : Glob} {w : World} {l : List As}
theorem itoa_takeS {ns : List Int} {i : Nat} {x : Int} (hx : ns[i]? = some x) : (ns.take (i + 1)).map Lib.itoa = (ns.take i).map Lib.itoa ++ [Lib.itoa x] := by
  rw [List.take_add_one, hx, List.map_append]; rfl
theorem i64_at {ns : List Int} {i : Nat} {x : Int} (h : ∀ n ∈ ns, I64 n) (hx : ns[i]? = some x) : I64 x := h x (List.mem_of_getElem? hx)
theorem tellS (p : Nat) (v tv : Value) (xs : List Bs) (ns : List Int) (hN : NumF g) (H : Sat g w (Pt p [v] 44 :: Sl 9 1 enW v xs :: Sl 2 1 enI tv ns :: l)) (hns : ∀ n ∈ ns, I64 n) (hl : xs.length + ns.length ≤ 100) : Fc Tryd.prog 27 #[tv, .pointer (some ⟨p, 0, none⟩)] w (fun r w' => ∃ v' ys, r = .tuple #[] ∧ ys = xs ++ ns.map Lib.itoa ∧ Sat g w' (Pt p [v'] 44 :: Sl 9 1 enW v' ys :: Sl 2 1 enI tv ns :: l)) := by
  refine Fc.of Tryd.func27 rfl (by kernel_rfl) ?_
  refine rLenS H 2 rfl rfl ?_
  refine LoopP.rule (α := Nat × Value × List Bs) (0, v, xs) (fun x_ => [(7, .int .i64 x_.1)]) (fun x_ w_ => (x_.1 ≤ ns.length) ∧ (x_.2.2 = xs ++ (ns.take x_.1).map Lib.itoa) ∧ (x_.2.2.length = xs.length + x_.1) ∧ Sat g w_ ((Pt p [x_.2.1] 44 :: Sl 9 1 enW x_.2.1 x_.2.2 :: Sl 2 1 enI tv ns :: l))) (fun x_ => ns.length - x_.1) ?_ ?_ ?_
  · repeat first | exact mt_nil | refine mt_cons rfl ?_ | refine mt_i rfl (by first | omega | (simp only; omega) | (simp; omega) | (simp; done)) ?_
  · try simp only
    refine ⟨?_, ?_⟩
    · simp
    refine ⟨?_, ?_⟩
    · simp
    refine ⟨?_, ?_⟩
    · simp
    exact H
  clear H
  rintro ⟨i, vv, ys⟩ f_ w_ ⟨hi, hy, hyl, H⟩
  try simp only at hi hy hyl H ⊢
  by_cases hlt : i < ns.length
  · obtain ⟨x, hx⟩ : ∃ x, ns[i]? = some x := ⟨_, List.getElem?_eq_getElem hlt⟩
    have hx6 := i64_at hns hx
    refine cT (vLt_T (by omega)) ?_
    refine bk ?_
    obtain ⟨b1, o1, E1⟩ := H.elt 2 rfl (i) (by omega)
    refine rIxE E1 rfl rfl rfl ?_
    refine rLd (H.el 2 rfl E1 hx) 0 rfl rfl rfl ?_
    refine drawzS H [] [(0, .held), (1, .pure), (2, .forced), (3, .forced), (4, .free), (5, .free)] mixed (by kernel_rfl) (by kernel_rfl) ?_
    clear H
    intro w1 H
    clear w_
    refine tk (fun wx HS => rLd (HS.at 0 rfl) 0 rfl rfl rfl ⟨rfl, rfl⟩) ?_
    refine CallP.mk (Fc.imp (Go.Proofs.YtooimjefbdokaaaDoor.Asm.formatInt H ?_ _ ?_) ?_)
    · assumption
    · assumption
    clear H
    rintro _ w2 ⟨rfl, H⟩
    refine KeepP.mk (H) ?_
    refine rBuildSliceS H rfl rfl rfl rfl ?_
    clear H
    intro p1 w3 H
    clear w2
    refine KeepP.mk (H.drop 0 (fun H => H)) ?_
    refine rApS (ys := [_]) 16 H 2 rfl (H.at 0 rfl) rfl (fun y _ => rfl) rfl rfl rfl (by omega) (by omega) ?_
    intro v1
    clear H
    intro w2 H
    clear w3
    refine rStS H 1 rfl rfl rfl (H.one 2 rfl) ?_
    clear H
    intro w3 H
    clear w2
    refine eqI64 (by omega) ?_
    refine Nxt.mk ((i + 1, v1, ys ++ [Lib.itoa x])) (mt_i rfl (by first | omega | (simp only; omega) | (simp; omega)) (mt_nil)) ?_ ?_
    · refine ⟨?_, ?_⟩
      · assumption
      refine ⟨?_, ?_⟩
      · (rw [hy, itoa_takeS hx, List.append_assoc])
      refine ⟨?_, ?_⟩
      · (simp only [List.length_append, List.length_set, List.length_cons, List.length_nil]; omega)
      refine H.fronts [3, 3, 3] ?_
      clear H
      intro H
      refine H.drop 3 ?_
      clear H
      intro H
      exact H
    omega
  · refine cF (vLt_F (by omega)) ?_
    refine Done.mk ?_
    refine ⟨vv, xs ++ List.map Lib.itoa ns, ?_⟩
    refine ⟨?_, ?_⟩
    · rfl
    refine ⟨?_, ?_⟩
    · rfl
    refine H.cg (cgC rfl (cgC (cgSl ?_) (cgC rfl (rfl))))
    (rw [hy, List.take_of_length_le (by omega)])
theorem tellF (p : Nat) (v tv : Value) (xs : List Bs) (ns : List Int) (hN : NumF g) (hx : FSl g enI okI 1 tv ns) (H : Sat g w (Pt p [v] 44 :: Sl 9 1 enW v xs :: l)) (hns : ∀ n ∈ ns, I64 n) (hl : xs.length + ns.length ≤ 100) : Fc Tryd.prog 27 #[tv, .pointer (some ⟨p, 0, none⟩)] w (fun r w' => ∃ v' ys, r = .tuple #[] ∧ ys = xs ++ ns.map Lib.itoa ∧ Sat g w' (Pt p [v'] 44 :: Sl 9 1 enW v' ys :: l)) := by
  refine Fc.of Tryd.func27 rfl (by kernel_rfl) ?_
  refine rLenF hx rfl ?_
  refine LoopP.rule (α := Nat × Value × List Bs) (0, v, xs) (fun x_ => [(7, .int .i64 x_.1)]) (fun x_ w_ => (x_.1 ≤ ns.length) ∧ (x_.2.2 = xs ++ (ns.take x_.1).map Lib.itoa) ∧ (x_.2.2.length = xs.length + x_.1) ∧ Sat g w_ ((Pt p [x_.2.1] 44 :: Sl 9 1 enW x_.2.1 x_.2.2 :: l))) (fun x_ => ns.length - x_.1) ?_ ?_ ?_
  · repeat first | exact mt_nil | refine mt_cons rfl ?_ | refine mt_i rfl (by first | omega | (simp only; omega) | (simp; omega) | (simp; done)) ?_
  · try simp only
    refine ⟨?_, ?_⟩
    · simp
    refine ⟨?_, ?_⟩
    · simp
    refine ⟨?_, ?_⟩
    · simp
    exact H
  clear H
  rintro ⟨i, vv, ys⟩ f_ w_ ⟨hi, hy, hyl, H⟩
  try simp only at hi hy hyl H ⊢
  by_cases hlt : i < ns.length
  · obtain ⟨x, hx2⟩ : ∃ x, ns[i]? = some x := ⟨_, List.getElem?_eq_getElem hlt⟩
    have hx6 := i64_at hns hx2
    refine cT (vLt_T (by omega)) ?_
    refine bk ?_
    obtain ⟨b1, o1, E1, F1, hok1⟩ := FSl.elt hx hx2
    refine rIxE E1 rfl rfl rfl ?_
    refine rLd (H.fat F1) 0 rfl rfl rfl ?_
    refine drawzS H [] [(0, .held), (1, .pure), (2, .forced), (3, .forced), (4, .free), (5, .free)] mixed (by kernel_rfl) (by kernel_rfl) ?_
    clear H
    intro w1 H
    clear w_
    refine tk (fun wx HS => rLd (HS.at 0 rfl) 0 rfl rfl rfl ⟨rfl, rfl⟩) ?_
    refine CallP.mk (Fc.imp (Go.Proofs.YtooimjefbdokaaaDoor.Asm.formatInt H ?_ _ ?_) ?_)
    · assumption
    · assumption
    clear H
    rintro _ w2 ⟨rfl, H⟩
    refine KeepP.mk (H) ?_
    refine rBuildSliceS H rfl rfl rfl rfl ?_
    clear H
    intro p1 w3 H
    clear w2
    refine KeepP.mk (H.drop 0 (fun H => H)) ?_
    refine rApS (ys := [_]) 16 H 2 rfl (H.at 0 rfl) rfl (fun y _ => rfl) rfl rfl rfl (by omega) (by omega) ?_
    intro v1
    clear H
    intro w2 H
    clear w3
    refine rStS H 1 rfl rfl rfl (H.one 2 rfl) ?_
    clear H
    intro w3 H
    clear w2
    refine eqI64 (by omega) ?_
    refine Nxt.mk ((i + 1, v1, ys ++ [Lib.itoa x])) (mt_i rfl (by first | omega | (simp only; omega) | (simp; omega)) (mt_nil)) ?_ ?_
    · refine ⟨?_, ?_⟩
      · assumption
      refine ⟨?_, ?_⟩
      · (rw [hy, itoa_takeS hx2, List.append_assoc])
      refine ⟨?_, ?_⟩
      · (simp only [List.length_append, List.length_set, List.length_cons, List.length_nil]; omega)
      refine H.fronts [2, 2] ?_
      clear H
      intro H
      refine H.drop 2 ?_
      clear H
      intro H
      exact H
    omega
  · refine cF (vLt_F (by omega)) ?_
    refine Done.mk ?_
    refine ⟨vv, xs ++ List.map Lib.itoa ns, ?_⟩
    refine ⟨?_, ?_⟩
    · rfl
    refine ⟨?_, ?_⟩
    · rfl
    refine H.cg (cgC rfl (cgC (cgSl ?_) (rfl)))
    (rw [hy, List.take_of_length_le (by omega)])
theorem words (n : Nat) (a b : Int) (tv : Value) (ns : List Int) (H : Sat g w l) (m : Int) (hM : FAt g 0 0 [.int .i64 m]) (hN : NumF g) (hx : FSl g enI okI 1 tv ns) (hn : n ≤ 255) (ha : I64 a) (hb : I64 b) (hns : ∀ n ∈ ns, I64 n) (h16 : ns.length ≤ 17) : Fc Tryd.prog 11 #[.agg #[.int .u8 (n : Int), .int .i64 a, .int .i64 b, tv]] w (fun r w' => ∃ v ws, r = v ∧ ws = wordsI ⟨(n : Int), a, b, ns⟩ ∧ Sat g w' (Sl 9 1 enW v ws :: l)) := by
  have hnm : (nameR n).1 = (nameR (⟨(n : Int), a, b, ns⟩ : InsD).op.toNat).1 := by simp
  refine Fc.of Tryd.func11 rfl (by kernel_rfl) ?_
  refine rBoxS H ?_
  clear H
  intro p1 w1 H
  refine rFieldAt rfl ?_
  refine rLd (H.at 0 rfl) 0 rfl rfl rfl ?_
  refine CallP.mk (Fc.imp (Go.Proofs.YtooimjefbdokaaaDoor.Asm.name H _ hM (n) ?_) ?_)
  · assumption
  clear H
  rintro _ w2 ⟨s1, ⟨b1, ⟨rfl, ⟨h1, H⟩⟩⟩⟩
  refine rBuildSliceS H rfl rfl rfl rfl ?_
  clear H
  intro p2 w3 H
  clear w2
  refine rAllocS H rfl ?_
  clear H
  intro p3 w2 H
  clear w3
  refine rStS H 0 rfl rfl rfl rfl ?_
  clear H
  intro w3 H
  clear w2
  refine rFieldAt rfl ?_
  refine rLd (H.at 2 rfl) 0 rfl rfl rfl ?_
  refine H.ptSl (n := 1) (en := enW) (s := 1) 1 rfl [s1] rfl rfl (fun _ => rfl) rfl ?_
  clear H
  intro H
  have hs1 : s1 = (nameR n).1 := by rw [‹(s1, b1) = nameR n›.symm]
  have hws : ∀ r, [s1] ++ r = (nameR (⟨(n : Int), a, b, ns⟩ : InsD).op.toNat).1 :: r := by intro r; rw [hs1, hnm]; rfl
  clear hnm hs1
  have hw0 : [s1] = (nameR (⟨(n : Int), a, b, ns⟩ : InsD).op.toNat).1 :: [] := hws []
  rcases bes_cases (n : Int) with hc | hc | hc | hc | hc
  · refine CallP.mk (Fc.imp (Go.Proofs.YtooimjefbdokaaaDoor.Asm.beside _ _) ?_)
    rintro _ _ ⟨⟨r1, ⟨rfl, h2⟩⟩, rfl⟩
    refine bk ?_
    refine cT (vEq_T (by omega)) ?_
    refine rFieldAt rfl ?_
    refine rLd (H.at 2 rfl) 1 rfl rfl rfl ?_
    refine cI (fun c1 => ?_) (fun c1 => ?_)
    · replace c1 := vEq_t (c1)
      refine rLd (H.at 0 rfl) 0 rfl rfl rfl ?_
      refine rBuildSliceS H rfl rfl rfl rfl ?_
      clear H
      intro p4 w2 H
      clear w3
      refine rApS (ys := [_]) 16 H 2 rfl (H.at 0 rfl) rfl (fun y _ => rfl) rfl rfl rfl (by (simp only [List.length_append, List.length_set, List.length_cons, List.length_nil]; omega)) (by (simp only [List.length_append, List.length_set, List.length_cons, List.length_nil]; omega)) ?_
      intro v1
      clear H
      intro w3 H
      clear w2
      refine rStS H 1 rfl rfl rfl (H.one 2 rfl) ?_
      clear H
      intro w2 H
      clear w3
      refine rLd (H.at 1 rfl) 0 rfl rfl rfl ?_
      refine Done.mk ?_
      refine ⟨v1, wordsI { op := (↑n : Int), a := a, b := b, «to» := ns }, ?_⟩
      refine ⟨?_, ?_⟩
      · rfl
      refine ⟨?_, ?_⟩
      · rfl
      refine H.fronts [2] ?_
      clear H
      intro H
      refine H.drop 3 ?_
      clear H
      intro H
      refine H.drop 2 ?_
      clear H
      intro H
      refine H.drop 1 ?_
      clear H
      intro H
      refine H.cg (cgC (cgSl ?_) (rfl))
      (rw [hws]; unfold wordsI; rw [restW_1 (x := ⟨(n : Int), a, b, ns⟩) hc]; unfold kindW; rw [if_pos ‹_›]; rfl)
    replace c1 := vEq_f (c1)
    refine rFieldAt rfl ?_
    refine rLd (H.at 2 rfl) 1 rfl rfl rfl ?_
    refine cI (fun c2 => ?_) (fun c2 => ?_)
    · replace c2 := vEq_t (c2)
      refine rLd (H.at 0 rfl) 0 rfl rfl rfl ?_
      refine rBuildSliceS H rfl rfl rfl rfl ?_
      clear H
      intro p4 w2 H
      clear w3
      refine rApS (ys := [_]) 16 H 2 rfl (H.at 0 rfl) rfl (fun y _ => rfl) rfl rfl rfl (by (simp only [List.length_append, List.length_set, List.length_cons, List.length_nil]; omega)) (by (simp only [List.length_append, List.length_set, List.length_cons, List.length_nil]; omega)) ?_
      intro v1
      clear H
      intro w3 H
      clear w2
      refine rStS H 1 rfl rfl rfl (H.one 2 rfl) ?_
      clear H
      intro w2 H
      clear w3
      refine rLd (H.at 1 rfl) 0 rfl rfl rfl ?_
      refine Done.mk ?_
      refine ⟨v1, wordsI { op := (↑n : Int), a := a, b := b, «to» := ns }, ?_⟩
      refine ⟨?_, ?_⟩
      · rfl
      refine ⟨?_, ?_⟩
      · rfl
      refine H.fronts [2] ?_
      clear H
      intro H
      refine H.drop 3 ?_
      clear H
      intro H
      refine H.drop 2 ?_
      clear H
      intro H
      refine H.drop 1 ?_
      clear H
      intro H
      refine H.cg (cgC (cgSl ?_) (rfl))
      (rw [hws]; unfold wordsI; rw [restW_1 (x := ⟨(n : Int), a, b, ns⟩) hc]; unfold kindW; rw [if_neg ‹_›, if_pos ‹_›]; rfl)
    replace c2 := vEq_f (c2)
    refine rLd (H.at 0 rfl) 0 rfl rfl rfl ?_
    refine Done.mk ?_
    refine ⟨Value.slice (some { block := p2, off := 0 }) 1 1, wordsI { op := (↑n : Int), a := a, b := b, «to» := ns }, ?_⟩
    refine ⟨?_, ?_⟩
    · rfl
    refine ⟨?_, ?_⟩
    · rfl
    refine H.fronts [1] ?_
    clear H
    intro H
    refine H.drop 2 ?_
    clear H
    intro H
    refine H.drop 1 ?_
    clear H
    intro H
    refine H.cg (cgC (cgSl ?_) (rfl))
    (rw [hw0]; unfold wordsI; rw [restW_1 (x := ⟨(n : Int), a, b, ns⟩) hc]; unfold kindW; rw [if_neg ‹_›, if_neg ‹_›])
  · refine CallP.mk (Fc.imp (Go.Proofs.YtooimjefbdokaaaDoor.Asm.beside _ _) ?_)
    rintro _ _ ⟨⟨r1, ⟨rfl, h2⟩⟩, rfl⟩
    refine bk ?_
    refine cF (vEq_F (by omega)) ?_
    refine cT (vEq_T (by omega)) ?_
    refine rFieldAt rfl ?_
    refine rLd (H.at 2 rfl) 3 rfl rfl rfl ?_
    refine CallP.mk (Fc.imp (Go.Proofs.YtooimjefbdokaaaDoor.Asm.tellF (p3) _ _ _ _ hN hx H ?_ ?_) ?_)
    · assumption
    · (simp only [List.length_append, List.length_set, List.length_cons, List.length_nil]; omega)
    clear H
    rintro _ w2 ⟨v'1, ⟨ys1, ⟨rfl, ⟨h3, H⟩⟩⟩⟩
    refine rFieldAt rfl ?_
    refine rLd (H.at 2 rfl) 1 rfl rfl rfl ?_
    refine rBuildSliceS H rfl rfl rfl rfl ?_
    clear H
    intro p4 w4 H
    clear w2
    refine H.ptSl (n := 1) (en := enI) (s := 1) 0 rfl [a] rfl rfl (fun _ => rfl) rfl ?_
    clear H
    intro H
    have hyl : ys1.length = 1 + ns.length := by rw [h3, List.length_append, List.length_map]; rfl
    refine H.fronts [0, 2, 2] ?_
    clear H
    intro H
    refine CallP.mk (Fc.imp (Go.Proofs.YtooimjefbdokaaaDoor.Asm.tellS (p3) _ _ _ _ hN H ?_ ?_) ?_)
    · (simp; omega)
    · (simp only [List.length_append, List.length_set, List.length_cons, List.length_nil]; omega)
    clear H
    rintro _ w2 ⟨v'2, ⟨ys2, ⟨rfl, ⟨h4, H⟩⟩⟩⟩
    refine rLd (H.at 0 rfl) 0 rfl rfl rfl ?_
    refine Done.mk ?_
    refine ⟨v'2, wordsI { op := (↑n : Int), a := a, b := b, «to» := ns }, ?_⟩
    refine ⟨?_, ?_⟩
    · rfl
    refine ⟨?_, ?_⟩
    · rfl
    refine H.fronts [1] ?_
    clear H
    intro H
    refine H.drop 3 ?_
    clear H
    intro H
    refine H.drop 2 ?_
    clear H
    intro H
    refine H.drop 1 ?_
    clear H
    intro H
    refine H.cg (cgC (cgSl ?_) (rfl))
    (rw [h4, h3, List.append_assoc, hws]; unfold wordsI; rw [restW_2 (x := ⟨(n : Int), a, b, ns⟩) hc]; rfl)
  · refine CallP.mk (Fc.imp (Go.Proofs.YtooimjefbdokaaaDoor.Asm.beside _ _) ?_)
    rintro _ _ ⟨⟨r1, ⟨rfl, h2⟩⟩, rfl⟩
    refine bk ?_
    refine cF (vEq_F (by omega)) ?_
    refine cF (vEq_F (by omega)) ?_
    refine cT (vEq_T (by omega)) ?_
    refine rFieldAt rfl ?_
    refine rLd (H.at 2 rfl) 1 rfl rfl rfl ?_
    refine rBuildSliceS H rfl rfl rfl rfl ?_
    clear H
    intro p4 w2 H
    clear w3
    refine H.ptSl (n := 1) (en := enI) (s := 1) 0 rfl [a] rfl rfl (fun _ => rfl) rfl ?_
    clear H
    intro H
    refine H.fronts [0, 2, 2] ?_
    clear H
    intro H
    refine CallP.mk (Fc.imp (Go.Proofs.YtooimjefbdokaaaDoor.Asm.tellS (p3) _ _ _ _ hN H ?_ ?_) ?_)
    · (simp; omega)
    · (simp only [List.length_append, List.length_set, List.length_cons, List.length_nil]; omega)
    clear H
    rintro _ w3 ⟨v'1, ⟨ys1, ⟨rfl, ⟨h3, H⟩⟩⟩⟩
    refine rLd (H.at 0 rfl) 0 rfl rfl rfl ?_
    refine Done.mk ?_
    refine ⟨v'1, wordsI { op := (↑n : Int), a := a, b := b, «to» := ns }, ?_⟩
    refine ⟨?_, ?_⟩
    · rfl
    refine ⟨?_, ?_⟩
    · rfl
    refine H.fronts [1] ?_
    clear H
    intro H
    refine H.drop 3 ?_
    clear H
    intro H
    refine H.drop 2 ?_
    clear H
    intro H
    refine H.drop 1 ?_
    clear H
    intro H
    refine H.cg (cgC (cgSl ?_) (rfl))
    (rw [h3, hws]; unfold wordsI; rw [restW_3 (x := ⟨(n : Int), a, b, ns⟩) hc]; rfl)
  · refine CallP.mk (Fc.imp (Go.Proofs.YtooimjefbdokaaaDoor.Asm.beside _ _) ?_)
    rintro _ _ ⟨⟨r1, ⟨rfl, h2⟩⟩, rfl⟩
    refine bk ?_
    refine cF (vEq_F (by omega)) ?_
    refine cF (vEq_F (by omega)) ?_
    refine cF (vEq_F (by omega)) ?_
    refine cT (vEq_T (by omega)) ?_
    refine rFieldAt rfl ?_
    refine rLd (H.at 2 rfl) 1 rfl rfl rfl ?_
    refine rFieldAt rfl ?_
    refine rLd (H.at 2 rfl) 2 rfl rfl rfl ?_
    refine rBuildSliceS H rfl rfl rfl rfl ?_
    clear H
    intro p4 w2 H
    clear w3
    refine H.ptSl (n := 2) (en := enI) (s := 1) 0 rfl [a, b] rfl rfl (fun _ => rfl) rfl ?_
    clear H
    intro H
    refine H.fronts [0, 2, 2] ?_
    clear H
    intro H
    refine CallP.mk (Fc.imp (Go.Proofs.YtooimjefbdokaaaDoor.Asm.tellS (p3) _ _ _ _ hN H ?_ ?_) ?_)
    · (simp; omega)
    · (simp only [List.length_append, List.length_set, List.length_cons, List.length_nil]; omega)
    clear H
    rintro _ w3 ⟨v'1, ⟨ys1, ⟨rfl, ⟨h3, H⟩⟩⟩⟩
    refine rLd (H.at 0 rfl) 0 rfl rfl rfl ?_
    refine Done.mk ?_
    refine ⟨v'1, wordsI { op := (↑n : Int), a := a, b := b, «to» := ns }, ?_⟩
    refine ⟨?_, ?_⟩
    · rfl
    refine ⟨?_, ?_⟩
    · rfl
    refine H.fronts [1] ?_
    clear H
    intro H
    refine H.drop 3 ?_
    clear H
    intro H
    refine H.drop 2 ?_
    clear H
    intro H
    refine H.drop 1 ?_
    clear H
    intro H
    refine H.cg (cgC (cgSl ?_) (rfl))
    (rw [h3, hws]; unfold wordsI; rw [restW_4 (x := ⟨(n : Int), a, b, ns⟩) hc]; rfl)
  · refine CallP.mk (Fc.imp (Go.Proofs.YtooimjefbdokaaaDoor.Asm.beside _ _) ?_)
    rintro _ _ ⟨⟨r1, ⟨rfl, h2⟩⟩, rfl⟩
    refine bk ?_
    refine cF (vEq_F (by omega)) ?_
    refine cF (vEq_F (by omega)) ?_
    refine cF (vEq_F (by omega)) ?_
    refine cF (vEq_F (by omega)) ?_
    refine rLd (H.at 0 rfl) 0 rfl rfl rfl ?_
    refine Done.mk ?_
    refine ⟨Value.slice (some { block := p2, off := 0 }) 1 1, wordsI { op := (↑n : Int), a := a, b := b, «to» := ns }, ?_⟩
    refine ⟨?_, ?_⟩
    · rfl
    refine ⟨?_, ?_⟩
    · rfl
    refine H.fronts [1] ?_
    clear H
    intro H
    refine H.drop 2 ?_
    clear H
    intro H
    refine H.drop 1 ?_
    clear H
    intro H
    refine H.cg (cgC (cgSl ?_) (rfl))
    (rw [hw0]; unfold wordsI; rw [restW_5 (x := ⟨(n : Int), a, b, ns⟩) hc])
end
end Go.Proofs.YtooimjefbdokaaaDoor.Asm
/- Package asm: Write. -/
set_option maxRecDepth 100000
set_option maxHeartbeats 4000000
set_option linter.unusedVariables false
set_option linter.unusedSimpArgs false
namespace Go.Proofs.YtooimjefbdokaaaDoor.Asm
open Go Go.Proofs.YtooimjefbdokaaaDoor.Eng Go.RowKit
open Ins Nest
section
variable {g : Glob} {w : World} {l : List As}
theorem wordsO (o a b : Int) (tv : Value) (ns : List Int) (H : Sat g w l) (m : Int) (hM : FAt g 0 0 [.int .i64 m]) (hN : NumF g) (hx : FSl g enI okI 1 tv ns) (ho : 0 ≤ o ∧ o ≤ 255) (ha : I64 a) (hb : I64 b) (h16 : ns.length ≤ 17) : Fc Tryd.prog 11 #[.agg #[.int .u8 o, .int .i64 a, .int .i64 b, tv]] w (fun r w' => ∃ v ws, r = v ∧ ws = wordsI ⟨o, a, b, ns⟩ ∧ Sat g w' (Sl 9 1 enW v ws :: l)) := by
  obtain ⟨n, rfl⟩ := Int.eq_ofNat_of_zero_le ho.1
  exact words n a b tv ns H m hM hN hx (by omega) ha hb hx.all h16
/-- What Write answers. -/
def WrR (ds : List InsD) (t : Bs) (e : Int) : Prop :=
  (chkB ds ≠ 0 ∧ e = chkB ds ∧ t = []) ∨ (chkB ds = 0 ∧ 6000 < (textI ds).length ∧ e = 2 ∧ t = []) ∨ (chkB ds = 0 ∧ (textI ds).length ≤ 6000 ∧ e = 0 ∧ t = textI ds)
theorem chk_at {xs : List InsV} {k : Nat} {x : InsV} (h : chkB (xs.map InsV.d) = 0) (hx : xs[k]? = some x) : chk x.d = 0 := by
  obtain ⟨h1, h2, _⟩ := chkB_ok h
  have hl := (List.getElem?_eq_some_iff.1 hx).1
  exact (h2 k x.d (by simpa using hl) (by rw [List.getElem?_map, hx]; rfl)).1
theorem text_takeS {xs : List InsV} {k : Nat} {x : InsV} (hx : xs[k]? = some x) : textI ((xs.take (k + 1)).map InsV.d) = textI ((xs.take k).map InsV.d) ++ (lineI x.d ++ [10]) := by
  rw [List.take_add_one, hx, List.map_append]
  unfold textI
  rw [List.flatMap_append]; simp
theorem textI_ne {ds : List InsD} (h : ds ≠ []) : textI ds ≠ [] := by
  cases ds with
  | nil => exact absurd rfl h
  | cons x r => unfold textI; rw [List.flatMap_cons]; simp
theorem write (H : Sat g w l) (v : Value) (xs : List InsV) (m : Int) (hM : FAt g 0 0 [.int .i64 m]) (hN : NumF g) (hx : FSl g enV (okV g) 4 v xs) : Fc Tryd.prog 5 #[v] w (fun r w' => ∃ t e, r = .tuple #[.string (bs t), .int .i64 e] ∧ WrR (xs.map InsV.d) t e ∧ t.length ≤ 6000 ∧ Sat g w' l) := by
  refine Fc.of Tryd.func5 rfl (by kernel_rfl) ?_
  refine CallP.mk (Fc.imp (Go.Proofs.YtooimjefbdokaaaDoor.Nest.check H _ _ hx) ?_)
  clear H
  rintro _ w1 ⟨⟨e1, ⟨rfl, h1⟩⟩, H⟩
  refine cI (fun c1 => ?_) (fun c1 => ?_)
  · replace c1 := vNe_t (c1)
    refine Done.mk ?_
    refine ⟨[], e1, ?_⟩
    refine ⟨?_, ?_⟩
    · rfl
    refine ⟨?_, ?_⟩
    · refine (Or.inl ?_)
      refine ⟨?_, ?_⟩
      · intro x1
        omega
      refine ⟨?_, ?_⟩
      · assumption
      rfl
    refine ⟨?_, ?_⟩
    · (simp only [List.length_append, List.length_set, List.length_cons, List.length_nil]; omega)
    exact H
  replace c1 := vNe_f (c1)
  refine rAllocS H rfl ?_
  clear H
  intro p1 w2 H
  clear w1
  refine rLenF hx rfl ?_
  have hc : chkB (xs.map InsV.d) = 0 := by omega
  have hxl := (chkB_ok hc).1
  rw [List.length_map] at hxl
  replace H := H.sl0 (en := enY) (s := 1) 5 (fun _ => rfl)
  replace H := H.fronts [1, 0] (fun h => h)
  refine LoopP.rule (α := Nat × Value × Value × Bs) (0, .pointer none, .slice none 0 0, []) (fun x_ => [(15, .int .i64 x_.1)]) (fun x_ w_ => (x_.1 ≤ xs.length) ∧ (x_.2.1 = .pointer none ∨ x_.2.1 = .pointer (some ⟨p1, 0, none⟩)) ∧ (x_.2.2.2 = textI ((xs.take x_.1).map InsV.d)) ∧ (x_.2.2.2.length ≤ 800 * x_.1) ∧ Sat g w_ ((Pt p1 [x_.2.1, x_.2.2.1] 35 :: Sl 5 1 enY x_.2.2.1 x_.2.2.2 :: l))) (fun x_ => xs.length - x_.1) ?_ ?_ ?_
  · repeat first | exact mt_nil | refine mt_cons rfl ?_ | refine mt_i rfl (by first | omega | (simp only; omega) | (simp; omega) | (simp; done)) ?_
  · try simp only
    refine ⟨?_, ?_⟩
    · omega
    refine ⟨?_, ?_⟩
    · refine (Or.inl ?_)
      (constructor <;> omega)
    refine ⟨?_, ?_⟩
    · rfl
    refine ⟨?_, ?_⟩
    · (constructor <;> omega)
    exact H
  clear H
  rintro ⟨i, q, vb, tx⟩ f_ w_ ⟨hi, hq, htx, htl, H⟩
  try simp only at hi hq htx htl H ⊢
  by_cases hlt : i < xs.length
  · obtain ⟨x, hx2⟩ : ∃ x, xs[i]? = some x := ⟨_, List.getElem?_eq_getElem hlt⟩
    have hok := hx.all x (List.mem_of_getElem? hx2)
    have hck := chk_at hc hx2
    have hcf := chk_facts hck
    have hto := hok.to
    have h16 : x.to.length ≤ 16 := hcf.2.1
    have hoo := hok.op
    have hoa := hok.a
    have hob := hok.b
    have hWd : Wd x.d := ⟨hoo, hoa, hob, hto.all⟩
    have hwl := words_len hWd h16
    have hll := lineI_len hWd h16
    have htS := text_takeS hx2
    refine cT (vLt_T (by omega)) ?_
    refine bk ?_
    obtain ⟨b1, o1, E1, F1, hok1⟩ := FSl.elt hx hx2
    have hok1_op := hok1.op
    have hok1_a := hok1.a
    have hok1_b := hok1.b
    have hok1_to := hok1.to
    refine rIxE E1 rfl rfl rfl ?_
    refine rLdA (H.fat F1) 0 rfl rfl rfl ?_
    refine rAllocS H rfl ?_
    clear H
    intro p2 w1 H
    clear w_
    refine rStAS H 0 rfl rfl rfl (by simp only [List.all_cons, List.all_nil, H.one 2 rfl, FSl.one hok1_to, FSl.one hto, FSl.one hx]; rfl) ?_
    clear H
    intro w3 H
    clear w1
    refine rLdA (H.at 0 rfl) 0 rfl rfl rfl ?_
    refine CallP.mk (Fc.imp (Go.Proofs.YtooimjefbdokaaaDoor.Asm.wordsO _ _ _ _ _ H _ hM ?_ hok1_to ?_ ?_ ?_ ?_) ?_)
    · assumption
    · assumption
    · assumption
    · assumption
    · omega
    clear H
    rintro _ w1 ⟨v1, ⟨ws1, ⟨rfl, ⟨h2, H⟩⟩⟩⟩
    obtain ⟨hwn, hwc, hwm⟩ : ws1 ≠ [] ∧ ws1.length ≤ 100 ∧ (∀ y ∈ ws1, y.length ≤ 40) := ⟨by rw [h2]; exact List.cons_ne_nil _ _, by rw [h2]; exact Nat.le_trans hwl.1 (by decide), by rw [h2]; exact hwl.2⟩
    have hjl : Lib.join ws1 [32] = lineI x.d := by rw [h2]; rfl
    have hjn : (Lib.join ws1 [32]).length ≤ 738 := by rw [hjl]; exact hll
    refine CallP.mk (Fc.imp (Go.Proofs.YtooimjefbdokaaaDoor.Asm.joinF H _ _ (H.rdo 0 rfl ?_) ?_ ?_ ?_) ?_)
    · (simp; done)
    · assumption
    · assumption
    · assumption
    clear H
    rintro _ w4 ⟨rfl, H⟩
    refine H.fronts [3, 3] ?_
    clear H
    intro H
    refine CallP.mk (Fc.imp (Go.Proofs.YtooimjefbdokaaaDoor.Asm.bWriteS (p1) _ _ _ _ H ?_ ?_ ?_) ?_)
    · assumption
    · omega
    · omega
    clear H
    rintro _ w5 ⟨v'1, ⟨rfl, H⟩⟩
    refine CallP.mk (Fc.imp (Go.Proofs.YtooimjefbdokaaaDoor.Asm.bWriteB (p1) _ _ _ H ?_ ?_) ?_)
    · (simp; done)
    · (simp only [List.length_append, List.length_set, List.length_cons, List.length_nil]; omega)
    clear H
    rintro _ w6 ⟨v'2, ⟨rfl, H⟩⟩
    refine eqI64 (by omega) ?_
    refine Nxt.mk ((i + 1, Value.pointer (some { block := p1, off := 0 }), v'2, tx ++ Lib.join ws1 [32] ++ [10])) (mt_i rfl (by first | omega | (simp only; omega) | (simp; omega)) (mt_nil)) ?_ ?_
    · refine ⟨?_, ?_⟩
      · assumption
      refine ⟨?_, ?_⟩
      · refine (Or.inr ?_)
        rfl
      refine ⟨?_, ?_⟩
      · (rw [htx, htS, hjl, List.append_assoc])
      refine ⟨?_, ?_⟩
      · (simp only [List.length_append, List.length_set, List.length_cons, List.length_nil]; omega)
      refine H.drop 3 ?_
      clear H
      intro H
      refine H.drop 2 ?_
      clear H
      intro H
      exact H
    omega
  · have htw : tx = textI (xs.map InsV.d) := by rw [htx, List.take_of_length_le (by omega)]
    have hne : tx ≠ [] := by rw [htw]; exact textI_ne (chkB_ne hc)
    have htwl := congrArg List.length htw
    refine cF (vLt_F (by omega)) ?_
    refine CallP.mk (Fc.imp (Go.Proofs.YtooimjefbdokaaaDoor.Asm.bLen (p1) _ _ _ H) ?_)
    clear H
    rintro _ w1 ⟨rfl, H⟩
    refine cI (fun c2 => ?_) (fun c2 => ?_)
    · replace c2 := vLt_t (c2)
      refine Done.mk ?_
      refine ⟨[], 2, ?_⟩
      refine ⟨?_, ?_⟩
      · rfl
      refine ⟨?_, ?_⟩
      · exact .inr (.inl ⟨hc, by omega, rfl, rfl⟩)
      refine ⟨?_, ?_⟩
      · (simp only [List.length_append, List.length_set, List.length_cons, List.length_nil]; omega)
      refine H.drop 1 ?_
      clear H
      intro H
      refine H.drop 0 ?_
      clear H
      intro H
      exact H
    replace c2 := vLt_f (c2)
    refine CallP.mk (Fc.imp (Go.Proofs.YtooimjefbdokaaaDoor.Asm.bString (p1) _ _ _ H ?_) ?_)
    · assumption
    clear H
    rintro _ w3 ⟨rfl, H⟩
    refine Done.mk ?_
    refine ⟨tx, 0, ?_⟩
    refine ⟨?_, ?_⟩
    · rfl
    refine ⟨?_, ?_⟩
    · exact .inr (.inr ⟨hc, by omega, rfl, htw⟩)
    refine ⟨?_, ?_⟩
    · omega
    refine H.drop 0 ?_
    clear H
    intro H
    exact H
end
end Go.Proofs.YtooimjefbdokaaaDoor.Asm
/- Package asm: numbers, number, kind. -/
set_option maxRecDepth 100000
set_option maxHeartbeats 4000000
set_option linter.unusedVariables false
set_option linter.unusedSimpArgs false
namespace Go.Proofs.YtooimjefbdokaaaDoor.Asm
open Go Go.Proofs.YtooimjefbdokaaaDoor.Eng Go.RowKit
open Ins Nest
section
variable {g : Glob} {w : World} {l : List As}
def doneR (i : Nat) : List (Bs × Int) := (rowsL.take i).flatMap fun r => pairsOf r (piecesL r.2.2).length
theorem doneR_succ {i : Nat} {r : Nat × Bs × Bs} (h : rowsL[i]? = some r) : doneR (i + 1) = doneR i ++ pairsOf r (piecesL r.2.2).length := by
  unfold doneR
  rw [List.take_add_one, h, List.flatMap_append]; simp
theorem doneR_all : doneR 17 = pairsL := by
  unfold doneR pairsL
  rw [show List.take 17 rowsL = rowsL from List.take_of_length_le (Nat.le_of_eq rfl)]
theorem mf_step {i k : Nat} {r : Nat × Bs × Bs} {s : Bs} {v : Int} (h : (piecesL r.2.2)[k]? = some s) (hv : v = (r.1 : Int) + k) : upd (mfOf (doneR i ++ pairsOf r k)) (r.2.1 ++ s) (some v) = mfOf (doneR i ++ pairsOf r (k + 1)) := by
  rw [pairsOf_succ h, ← List.append_assoc, mfOf_snoc]
  subst hv
  rfl
theorem numbers (H : Sat g w l) (m : Int) (hM : FAt g 0 0 [.int .i64 m]) : Fc Tryd.prog 15 #[] w (fun r w' => ∃ b f n, r = .map (some b) ∧ f = namesM ∧ Sat g w' (Mp b f n :: l)) := by
  refine Fc.of Tryd.func15 rfl (by kernel_rfl) ?_
  refine rMakeMap H ?_
  intro b1
  clear H
  intro w1 H
  refine CallP.mk (Fc.imp (Go.Proofs.YtooimjefbdokaaaDoor.Asm.rows _) ?_)
  rintro v' w2 ⟨q1, ⟨h1, H'⟩⟩
  refine H.mergeK H' ?_
  clear H H'
  intro H
  have hq := rows_len ‹_ = rowsL›
  refine rLenS H 0 rfl rfl ?_
  refine LoopP.rule (α := Nat × MF × Nat) (0, mf0, 0) (fun x_ => [(9, .int .i64 x_.1)]) (fun x_ w_ => (x_.1 ≤ 17) ∧ (x_.2.1 = mfOf (doneR x_.1)) ∧ Sat g w_ ((Sl 76 3 enR v' q1 :: Mp b1 x_.2.1 x_.2.2 :: l))) (fun x_ => 17 - x_.1) ?_ ?_ ?_
  · repeat first | exact mt_nil | refine mt_cons rfl ?_ | refine mt_i rfl (by first | omega | (simp only; omega) | (simp; omega) | (simp; done)) ?_
  · try simp only
    refine ⟨?_, ?_⟩
    · omega
    refine ⟨?_, ?_⟩
    · rfl
    exact H
  clear H
  rintro ⟨i, mf, nm⟩ f_ w_ ⟨hi, hmf, H⟩
  try simp only at hi hmf H ⊢
  by_cases hlt : i < 17
  · obtain ⟨rr, hx⟩ : ∃ r, q1[i]? = some r := ⟨_, List.getElem?_eq_getElem (by rw [hq]; exact hlt)⟩
    have hxr : rowsL[i]? = some rr := h1 ▸ hx
    have hm := rowsL_ok rr (List.mem_of_getElem? hxr)
    have hsuc := doneR_succ hxr
    refine cT (vLt_T (by omega)) ?_
    refine bk ?_
    obtain ⟨b2, o1, E1⟩ := H.elt 0 rfl (i) (by omega)
    refine rIxE E1 rfl rfl rfl ?_
    refine rLdA (H.el 0 rfl E1 hx) 0 rfl rfl rfl ?_
    refine rAllocS H rfl ?_
    clear H
    intro p1 w3 H
    clear w_
    refine rStAS H 0 rfl rfl rfl rfl ?_
    clear H
    intro w4 H
    clear w3
    refine rFieldAt rfl ?_
    refine rLd (H.at 0 rfl) 2 rfl rfl rfl ?_
    refine CallP.mk (Fc.imp (Go.Proofs.YtooimjefbdokaaaDoor.Asm.splitC H _ hM _ _ ?_) ?_)
    · omega
    clear H
    rintro va' w3 ⟨xs1, ⟨h2, H⟩⟩
    refine rLenS H 0 rfl rfl ?_
    have hxp : xs1 = piecesL rr.2.2 := by rw [h2]; exact (cutB_is _ []).symm
    have hxl := congrArg List.length hxp
    have hm0 : mf = mfOf (doneR i ++ pairsOf rr 0) := by rw [hmf]; simp [pairsOf]
    clear h2
    refine LoopP.rule (α := Nat × MF × Nat) (0, mf, nm) (fun x_ => [(17, .int .i64 x_.1)]) (fun x_ w_ => (x_.1 ≤ (piecesL rr.2.2).length) ∧ (x_.2.1 = mfOf (doneR i ++ pairsOf rr x_.1)) ∧ Sat g w_ ((Sl 9 1 enW va' xs1 :: Pt p1 [Value.int IntKind.u8 ↑rr.fst, Value.string (bs rr.snd.fst), Value.string (bs rr.snd.snd)] 76 :: Sl 76 3 enR v' q1 :: Mp b1 x_.2.1 x_.2.2 :: l))) (fun x_ => (piecesL rr.2.2).length - x_.1) ?_ ?_ ?_
    · repeat first | exact mt_nil | refine mt_cons rfl ?_ | refine mt_i rfl (by first | omega | (simp only; omega) | (simp; omega) | (simp; done)) ?_
    · try simp only
      refine ⟨?_, ?_⟩
      · omega
      refine ⟨?_, ?_⟩
      · exact hm0
      exact H
    clear H
    rintro ⟨k, mg, nk⟩ f_ w_ ⟨hk, hmg, H⟩
    try simp only at hk hmg H ⊢
    by_cases hkl : k < (piecesL rr.2.2).length
    · obtain ⟨sx, hsx⟩ : ∃ s, xs1[k]? = some s := ⟨_, List.getElem?_eq_getElem (by omega)⟩
      have hst := fun v => mf_step (i := i) (v := v) (hxp ▸ hsx)
      have hsl := pieces_len rr (List.mem_of_getElem? hxr) sx (List.mem_of_getElem? (hxp ▸ hsx))
      refine cT (vLt_T (by omega)) ?_
      refine bk ?_
      obtain ⟨b3, o2, E2⟩ := H.elt 0 rfl (k) (by omega)
      refine rIxE E2 rfl rfl rfl ?_
      refine rLd (H.el 0 rfl E2 hsx) 0 rfl rfl rfl ?_
      refine rFieldAt rfl ?_
      refine rLd (H.at 1 rfl) 1 rfl rfl rfl ?_
      refine rCat (by omega) ?_
      refine rFieldAt rfl ?_
      refine rLd (H.at 1 rfl) 0 rfl rfl rfl ?_
      refine rConvI64 (by omega) rfl rfl ?_
      refine eqI64 (by omega) ?_
      refine rMapPut H 3 rfl rfl rfl ?_
      intro n1 hn1
      clear H
      intro w5 H
      clear w_
      refine eqI64 (by omega) ?_
      refine Nxt.mk ((k + 1, fun x => Decidable.rec (fun h => (fun x_1 => mg x) h) (fun h => (fun x => some ((↑rr.fst : Int) + (↑k : Int))) h) (instDecidableEqList x (rr.snd.fst ++ sx)), n1)) (mt_i rfl (by first | omega | (simp only; omega) | (simp; omega)) (mt_nil)) ?_ ?_
      · refine ⟨?_, ?_⟩
        · assumption
        refine ⟨?_, ?_⟩
        · (rw [hmg]; exact hst _ (by omega))
        exact H
      omega
    · have hke : k = (piecesL rr.2.2).length := by omega
      refine cF (vLt_F (by omega)) ?_
      refine eqI64 (by omega) ?_
      refine Nxt.mk ((i + 1, mg, nk)) (mt_i rfl (by first | omega | (simp only; omega) | (simp; omega)) (mt_nil)) ?_ ?_
      · refine ⟨?_, ?_⟩
        · assumption
        refine ⟨?_, ?_⟩
        · (rw [hmg, hke, hsuc])
        refine H.fronts [3, 3] ?_
        clear H
        intro H
        refine H.drop 3 ?_
        clear H
        intro H
        refine H.drop 2 ?_
        clear H
        intro H
        exact H
      omega
  · obtain rfl : i = 17 := by omega
    refine cF (vLt_F (by omega)) ?_
    refine Done.mk ?_
    refine ⟨b1, namesM, nm, ?_⟩
    refine ⟨?_, ?_⟩
    · rfl
    refine ⟨?_, ?_⟩
    · rfl
    refine H.fronts [1] ?_
    clear H
    intro H
    refine H.drop 1 ?_
    clear H
    intro H
    refine H.cg (cgC (cgMp ?_ ?_) (rfl))
    · (rw [hmf, doneR_all]; rfl)
    omega
theorem rNilNil {P : Program} {K : Value → World → Prop} {t : TypeId} {ms : Array (String × TypeId)} {x y : Operand} {c : Value} (ht : P.underlying t = some (.interface ms)) (hy : y = .const c) (k : K (.bool true) w) : RunP P (do eqGuard .eql t x y .nilIface .nilIface; binOp .eql t .nilIface .nilIface) w K := by
  subst hy
  refine ⟨.bool true, w, ?_, k⟩
  have hg : (eqGuard .eql t x (.const c) .nilIface .nilIface).run P w = .ok () w := by unfold eqGuard; simp
  have h : ∀ d : Nat, (Op.equalIn (d + 1) t .nilIface .nilIface).run P w = .ok true w := fun d => by simp [Op.equalIn, run_underlying ht]
  have he : (Op.equal t .nilIface .nilIface).run P w = .ok true w := h 9999
  simp only [Sem.run_bind, hg, Result.andThen_ok]
  simp only [binOp, Sem.run_bind, he, Result.andThen_ok, Sem.run_pure]
theorem rIfNil {P : Program} {K : Value → World → Prop} {t te : TypeId} {p : Value} {ms : Array (String × TypeId)} {x y : Operand} (ht : P.underlying t = some (.interface ms)) (k : K (.bool false) w) : RunP P (do eqGuard .eql t x y (.iface te p) .nilIface; binOp .eql t (.iface te p) .nilIface) w K := by
  refine ⟨.bool false, w, ?_, k⟩
  have hg : (eqGuard .eql t x y (.iface te p) .nilIface).run P w = .ok () w := by unfold eqGuard; rfl
  have h : ∀ d : Nat, (Op.equalIn (d + 1) t (.iface te p) .nilIface).run P w = .ok false w := fun d => by simp [Op.equalIn, run_underlying ht]
  have he : (Op.equal t (.iface te p) .nilIface).run P w = .ok false w := h 9999
  simp only [Sem.run_bind, hg, Result.andThen_ok]
  simp only [binOp, Sem.run_bind, he, Result.andThen_ok, Sem.run_pure]
/-- What number answers. -/
def NumR (s : Bs) (n : Int) (b : Bool) : Prop := (b = true → s = Lib.itoa n) ∧ (b = false → ∀ n', I64 n' → s ≠ Lib.itoa n')
theorem numR_y {s : Bs} {n : Int} (h : Lib.parseIntB 64 s = .ok n) : NumR s n (decide (Lib.itoa n = s)) := by
  refine ⟨fun hb => (of_decide_eq_true hb).symm, fun hb n' hn' e => ?_⟩
  have hb := of_decide_eq_false hb
  rw [e, parse_itoa hn'] at h
  injection h with h
  subst h
  exact hb e.symm
theorem numR_n {s : Bs} {n : Int} (h : ∀ n, Lib.parseIntB 64 s ≠ .ok n) : NumR s n false :=
  ⟨nofun, fun _ n' hn' e => h n' (by rw [e]; exact parse_itoa hn')⟩
theorem number (H : Sat g w l) (hN : NumF g) (s : Bs) (hs : s.length ≤ 100000) : Fc Tryd.prog 34 #[.string (bs s)] w (fun r w' => ∃ n b, r = .tuple #[.int .i64 n, .bool b] ∧ I64 n ∧ NumR s n b ∧ Sat g w' l) := by
  refine Fc.of Tryd.func34 rfl (by kernel_rfl) ?_
  refine CallP.mk (Fc.imp (Go.Proofs.YtooimjefbdokaaaDoor.Asm.parseInt H ?_ _ ?_) ?_)
  · assumption
  · assumption
  clear H
  rintro _ w1 ⟨n1, ⟨v1, ⟨rfl, ⟨h1, ⟨h2, H⟩⟩⟩⟩⟩
  rcases h2 with ⟨rfl, hp⟩ | ⟨⟨te, pe, rfl⟩, hp⟩
  · 
    refine rNilNil rfl rfl ?_
    refine CallP.mk (Fc.imp (Go.Proofs.YtooimjefbdokaaaDoor.Asm.formatInt H ?_ _ ?_) ?_)
    · assumption
    · assumption
    clear H
    rintro _ w2 ⟨rfl, H⟩
    refine rStrEq ?_
    refine Done.mk ?_
    refine ⟨n1, decide (Lib.itoa n1 = s), ?_⟩
    refine ⟨?_, ?_⟩
    · rfl
    refine ⟨?_, ?_⟩
    · assumption
    refine ⟨?_, ?_⟩
    · exact numR_y hp
    exact H
  · 
    refine rIfNil rfl ?_
    refine Done.mk ?_
    refine ⟨n1, false, ?_⟩
    refine ⟨?_, ?_⟩
    · rfl
    refine ⟨?_, ?_⟩
    · assumption
    refine ⟨?_, ?_⟩
    · exact numR_n hp
    exact H
end
end Go.Proofs.YtooimjefbdokaaaDoor.Asm
/- Package asm: kind, line. -/
set_option maxRecDepth 100000
set_option maxHeartbeats 4000000
set_option linter.unusedVariables false
set_option linter.unusedSimpArgs false
namespace Go.Proofs.YtooimjefbdokaaaDoor.Asm
open Go Go.Proofs.YtooimjefbdokaaaDoor.Eng Go.RowKit
open Ins Nest
section
variable {g : Glob} {w : World} {l : List As}
/-- What kind answers. -/
def KndR (ws : List Bs) (a : Int) (b : Bool) : Prop := (b = true → (a = 64 ∨ a = 127 ∨ a = 126) ∧ ws = kindW a) ∧ (b = false → ∀ a', (a' = 64 ∨ a' = 127 ∨ a' = 126) → ws ≠ kindW a')
theorem kndR_0 : KndR [] 64 true := ⟨fun _ => ⟨.inl rfl, rfl⟩, nofun⟩
theorem kndR_32 {r : List Bs} {n : Int} (hn : n = ((i32W :: r).length : Int)) : KndR (i32W :: r) 127 (vEq n 1) := by
  refine ⟨fun h => ?_, fun h a' ha e => ?_⟩
  · have := vEq_t h
    cases r with
    | nil => exact ⟨.inr (.inl rfl), rfl⟩
    | cons y r => simp at hn; omega
  · have := vEq_f h
    rcases ha with rfl | rfl | rfl
    · cases e
    · have h2 : (i32W :: r).length = 1 := congrArg List.length e
      omega
    · injection e with e _; exact absurd e (by decide)
theorem kndR_64 {r : List Bs} {n : Int} (hn : n = ((i64W :: r).length : Int)) : KndR (i64W :: r) 126 (vEq n 1) := by
  refine ⟨fun h => ?_, fun h a' ha e => ?_⟩
  · have := vEq_t h
    cases r with
    | nil => exact ⟨.inr (.inr rfl), rfl⟩
    | cons y r => simp at hn; omega
  · have := vEq_f h
    rcases ha with rfl | rfl | rfl
    · cases e
    · injection e with e _; exact absurd e (by decide)
    · have h2 : (i64W :: r).length = 1 := congrArg List.length e
      omega
theorem kndR_n {y : Bs} {r : List Bs} (h1 : y ≠ i32W) (h2 : y ≠ i64W) (a : Int) : KndR (y :: r) a false := by
  refine ⟨nofun, fun h a' ha e => ?_⟩
  rcases ha with rfl | rfl | rfl
  · cases e
  · injection e with e _; exact h1 e
  · injection e with e _; exact h2 e
theorem kn32 {y x1 : Bs} {r : List Bs} (hx : (y :: r)[0]? = some x1) (c : x1 = [105, 51, 50]) : KndR (y :: r) 127 (vEq ((y :: r).length : Int) 1) := by
  obtain rfl : y = x1 := Option.some.inj hx
  subst c; exact kndR_32 rfl
theorem kn64 {y x1 : Bs} {r : List Bs} (hx : (y :: r)[0]? = some x1) (c : x1 = [105, 54, 52]) : KndR (y :: r) 126 (vEq ((y :: r).length : Int) 1) := by
  obtain rfl : y = x1 := Option.some.inj hx
  subst c; exact kndR_64 rfl
theorem knNo {y x1 : Bs} {r : List Bs} (hx : (y :: r)[0]? = some x1) (c1 : ¬ x1 = [105, 51, 50]) (c2 : ¬ x1 = [105, 54, 52]) (a : Int) : KndR (y :: r) a false := by
  obtain rfl : y = x1 := Option.some.inj hx
  exact kndR_n c1 c2 a
theorem kind (o : Int) (v : Value) (ws : List Bs) (w : World) (hv : Rd enW (fun _ => True) 1 w v ws) : Fc Tryd.prog 33 #[.agg #[.int .u8 o, .int .i64 0, .int .i64 0, .slice none 0 0], v] w (fun r w' => ∃ a b, r = .tuple #[.agg #[.int .u8 o, .int .i64 a, .int .i64 0, .slice none 0 0], .bool b] ∧ I64 a ∧ KndR ws a b ∧ Sat (froz w) w' []) := by
  refine Fc.of Tryd.func33 rfl (by kernel_rfl) ?_
  have H := Sat.start w
  have hx := hv.fz
  cases ws with
  | nil =>
    refine rBoxS H ?_
    clear H
    intro p1 w1 H
    refine rAllocS H rfl ?_
    clear H
    intro p2 w2 H
    clear w1
    refine rFieldAt rfl ?_
    refine rStS H 1 rfl rfl rfl rfl ?_
    clear H
    intro w1 H
    clear w2
    refine rLenF hx rfl ?_
    refine cT (vEq_T (by (simp only [List.length_append, List.length_set, List.length_cons, List.length_nil]; omega))) ?_
    refine rLdA (H.at 1 rfl) 0 rfl rfl rfl ?_
    refine rStAS H 0 rfl rfl rfl rfl ?_
    clear H
    intro w2 H
    clear w1
    refine rdAN (H.at 0 rfl) 0 rfl rfl rfl ?_
    refine Done.mk ?_
    refine ⟨64, true, ?_⟩
    refine ⟨?_, ?_⟩
    · rfl
    refine ⟨?_, ?_⟩
    · refine ⟨?_, ?_⟩
      · omega
      omega
    refine ⟨?_, ?_⟩
    · exact kndR_0
    refine H.firsts 0 ?_
    clear H
    intro H
    exact H
  | cons y r =>
    refine rBoxS H ?_
    clear H
    intro p1 w1 H
    refine rAllocS H rfl ?_
    clear H
    intro p2 w2 H
    clear w1
    refine rFieldAt rfl ?_
    refine rStS H 1 rfl rfl rfl rfl ?_
    clear H
    intro w1 H
    clear w2
    refine rLenF hx rfl ?_
    refine cF (vEq_F (by (simp only [List.length_append, List.length_set, List.length_cons, List.length_nil]; omega))) ?_
    obtain ⟨x1, hx1⟩ : ∃ x, (y :: r)[0]? = some x := ⟨_, List.getElem?_eq_getElem (by (simp only [List.length_append, List.length_set, List.length_cons, List.length_nil]; omega))⟩
    obtain ⟨b1, o1, E1, F1, hok1⟩ := FSl.elt hx hx1
    refine rIxE E1 rfl rfl rfl ?_
    refine rLd (H.fat F1) 0 rfl rfl rfl ?_
    refine bk ?_
    refine rStrEq ?_
    refine cI (fun c1 => ?_) (fun c1 => ?_)
    · replace c1 := dec_t (c1)
      refine rFieldAt rfl ?_
      refine rStS H 1 rfl rfl rfl rfl ?_
      clear H
      intro w2 H
      clear w1
      refine rLdA (H.at 1 rfl) 0 rfl rfl rfl ?_
      refine rLenF hx rfl ?_
      refine rStAS H 0 rfl rfl rfl rfl ?_
      clear H
      intro w1 H
      clear w2
      refine rdAN (H.at 0 rfl) 0 rfl rfl rfl ?_
      refine Done.mk ?_
      refine ⟨127, vEq (↑(y :: r).length : Int) 1, ?_⟩
      refine ⟨?_, ?_⟩
      · rfl
      refine ⟨?_, ?_⟩
      · refine ⟨?_, ?_⟩
        · omega
        omega
      refine ⟨?_, ?_⟩
      · exact kn32 (by assumption) c1
      refine H.firsts 0 ?_
      clear H
      intro H
      exact H
    replace c1 := dec_f (c1)
    refine rStrEq ?_
    refine cI (fun c2 => ?_) (fun c2 => ?_)
    · replace c2 := dec_t (c2)
      refine rFieldAt rfl ?_
      refine rStS H 1 rfl rfl rfl rfl ?_
      clear H
      intro w2 H
      clear w1
      refine rLdA (H.at 1 rfl) 0 rfl rfl rfl ?_
      refine rLenF hx rfl ?_
      refine rStAS H 0 rfl rfl rfl rfl ?_
      clear H
      intro w1 H
      clear w2
      refine rdAN (H.at 0 rfl) 0 rfl rfl rfl ?_
      refine Done.mk ?_
      refine ⟨126, vEq (↑(y :: r).length : Int) 1, ?_⟩
      refine ⟨?_, ?_⟩
      · rfl
      refine ⟨?_, ?_⟩
      · refine ⟨?_, ?_⟩
        · omega
        omega
      refine ⟨?_, ?_⟩
      · exact kn64 (by assumption) c2
      refine H.firsts 0 ?_
      clear H
      intro H
      exact H
    replace c2 := dec_f (c2)
    refine rLdA (H.at 1 rfl) 0 rfl rfl rfl ?_
    refine rStAS H 0 rfl rfl rfl rfl ?_
    clear H
    intro w2 H
    clear w1
    refine rdAN (H.at 0 rfl) 0 rfl rfl rfl ?_
    refine Done.mk ?_
    refine ⟨64, false, ?_⟩
    refine ⟨?_, ?_⟩
    · rfl
    refine ⟨?_, ?_⟩
    · refine ⟨?_, ?_⟩
      · omega
      omega
    refine ⟨?_, ?_⟩
    · exact knNo (by assumption) c1 c2 _
    refine H.firsts 0 ?_
    clear H
    intro H
    exact H
end
end Go.Proofs.YtooimjefbdokaaaDoor.Asm
/- A line as an instruction: the plain side. -/
set_option maxRecDepth 100000
set_option maxHeartbeats 4000000
set_option linter.unusedVariables false
set_option linter.unusedSimpArgs false
namespace Go.Proofs.YtooimjefbdokaaaDoor.Asm
open Go Go.Proofs.YtooimjefbdokaaaDoor.Eng Ins Nest Leb
/-- An instruction of its numbers. -/
def mkX (o : Int) (ns : List Int) : InsD :=
  if besN o = -2 then ⟨o, ns.getD (ns.length - 1) 0, 0, ns.take (ns.length - 1)⟩ else ⟨o, ns.getD 0 0, ns.getD 1 0, []⟩
def cntOk (o : Int) (n : Nat) : Prop := if besN o = -2 then 1 ≤ n ∧ n ≤ 17 else (n : Int) = besN o
theorem i64_0 : I64 0 := ⟨by decide, by decide⟩
theorem mkX_op (o : Int) (ns : List Int) : (mkX o ns).op = o := by unfold mkX; split <;> rfl
theorem getD_mem {ns : List Int} {k : Nat} (hns : ∀ n ∈ ns, I64 n) : I64 (ns.getD k 0) := by
  rw [List.getD_eq_getElem?_getD]
  cases h : ns[k]? with
  | none => exact ⟨by decide, by decide⟩
  | some x => exact hns x (List.mem_of_getElem? h)
theorem mkX_wd {o : Int} {ns : List Int} (ho : 0 ≤ o ∧ o ≤ 255) (hns : ∀ n ∈ ns, I64 n) : Wd (mkX o ns) := by
  unfold mkX
  split
  · exact ⟨ho, getD_mem hns, i64_0, fun n hn => hns n (List.mem_of_mem_take hn)⟩
  · exact ⟨ho, getD_mem hns, getD_mem hns, fun n hn => by cases hn⟩
theorem last_split {ns : List Int} (h : 1 ≤ ns.length) : ns = ns.take (ns.length - 1) ++ [ns.getD (ns.length - 1) 0] := by
  have hl : ns.length - 1 < ns.length := by omega
  have : ns.take (ns.length - 1 + 1) = ns := List.take_of_length_le (by omega)
  rw [List.take_add_one, List.getElem?_eq_getElem hl] at this
  rw [List.getD_eq_getElem?_getD, List.getElem?_eq_getElem hl]
  exact this.symm
theorem mkX_words {o : Int} {k : Bs} {ns : List Int} (hk : (nameR o.toNat).1 = k) (hb : besN o ≠ -1) (hc : cntOk o ns.length) : wordsI (mkX o ns) = k :: ns.map Lib.itoa := by
  unfold wordsI
  rw [mkX_op, hk]
  congr 1
  unfold cntOk at hc
  rcases bes_cases o with h | h | h | h | h
  · exact absurd h hb
  · rw [if_pos h] at hc
    rw [restW_2 (by rw [mkX_op]; exact h)]
    unfold mkX
    rw [if_pos h]
    conv => rhs; rw [last_split hc.1, List.map_append]
    rfl
  · rw [if_neg (by omega)] at hc
    rw [restW_3 (by rw [mkX_op]; exact h)]
    unfold mkX
    rw [if_neg (by omega)]
    obtain ⟨n, rfl⟩ := List.length_eq_one_iff.1 (show ns.length = 1 by omega)
    rfl
  · rw [if_neg (by omega)] at hc
    rw [restW_4 (by rw [mkX_op]; exact h)]
    unfold mkX
    rw [if_neg (by omega)]
    match ns, (show ns.length = 2 by omega) with
    | [n, n'], _ => rfl
  · rw [if_neg (by omega)] at hc
    rw [restW_5 (by rw [mkX_op]; exact h)]
    obtain rfl := List.length_eq_zero_iff.1 (show ns.length = 0 by omega)
    rfl
theorem words_op {y : InsD} {o : Int} {k : Bs} {rest : List Bs} (hy : Wd y) (hc : chk y = 0) (hw : wordsI y = k :: rest) (hk : namesM k = some o) : y.op = o ∧ rest = restW y := by
  obtain ⟨h1, h2, h3, h4⟩ := namesM_y hk
  unfold wordsI at hw
  injection hw with e1 e2
  have hy0 := hy.1
  have kn := (bes_at hy.1).1.1 (chk_facts hc).1
  have := name_inj (a := y.op.toNat) (b := o.toNat) (by omega) (by omega) kn h4 (by rw [e1, h3])
  exact ⟨by omega, e2.symm⟩
theorem words_mk {y : InsD} {o : Int} {k : Bs} {rest : List Bs} (hy : Wd y) (hc : chk y = 0) (hw : wordsI y = k :: rest) (hk : namesM k = some o) (hb : besN o ≠ -1) : ∃ ns : List Int, rest = ns.map Lib.itoa ∧ (∀ n ∈ ns, I64 n) ∧ cntOk o ns.length ∧ y = mkX o ns := by
  obtain ⟨rfl, rfl⟩ := words_op hy hc hw hk
  obtain ⟨x0, x16, x4, x6, x1, x2, x8, x66, x3, xt⟩ := chk_facts hc
  obtain ⟨oy, ay, by_, ty⟩ := y
  obtain ⟨ho, ha, hb2, ht⟩ := hy
  simp only at *
  obtain ⟨t0, t1, t2, t3, t4, t5⟩ := bes_at ho
  unfold cntOk mkX
  rcases bes_cases oy with h | h | h | h | h
  · exact absurd h hb
  · refine ⟨ty ++ [ay], by rw [restW_2 (x := ⟨oy, ay, by_, ty⟩) h, List.map_append]; rfl, fun n hn => ?_, ?_, ?_⟩
    · rcases List.mem_append.1 hn with h | h
      · exact ht n h
      · rw [List.mem_singleton] at h; subst h; exact ha
    · rw [if_pos h]; simp; omega
    · rw [if_pos h, x6 (by omega)]; simp
  · refine ⟨[ay], restW_3 (x := ⟨oy, ay, by_, ty⟩) h, fun n hn => ?_, ?_, ?_⟩
    · rw [List.mem_singleton] at hn; subst hn; exact ha
    · rw [if_neg (by omega), h]; rfl
    · rw [if_neg (by omega), x6 (by omega), x4 (by omega)]; rfl
  · refine ⟨[ay, by_], restW_4 (x := ⟨oy, ay, by_, ty⟩) h, fun n hn => ?_, ?_, ?_⟩
    · rcases List.mem_cons.1 hn with rfl | hn
      · exact ha
      · rw [List.mem_singleton] at hn; subst hn; exact hb2
    · rw [if_neg (by omega), h]; rfl
    · rw [if_neg (by omega), x4 (by omega)]; rfl
  · refine ⟨[], restW_5 (x := ⟨oy, ay, by_, ty⟩) h, (fun n hn => by cases hn), ?_, ?_⟩
    · rw [if_neg (by omega), h]; rfl
    · rw [if_neg (by omega), x6 (by omega), x4 (by omega), x1 (by have := t5.1 h; omega)]; rfl
/-- What line answers. -/
def LineR (ws : List Bs) (x : InsD) (b : Bool) : Prop := (b = true → Wd x ∧ chk x = 0 ∧ wordsI x = ws) ∧ (b = false → ∀ y, Wd y → chk y = 0 → wordsI y ≠ ws)
theorem lineR_name {k : Bs} {r : List Bs} (h : namesM k = none) (x : InsD) : LineR (k :: r) x false := by
  refine ⟨nofun, fun _ y hy hc e => ?_⟩
  unfold wordsI at e
  injection e with e1 e2
  exact namesM_n h hy.1 ((bes_at hy.1).1.1 (chk_facts hc).1) e1
theorem chk_kind {o a : Int} (ho : 0 ≤ o ∧ o ≤ 255) (hb : besN o = -1) (ha : a = 64 ∨ a = 127 ∨ a = 126) : chk ⟨o, a, 0, []⟩ = 0 := by
  have h2 := (bes_at ho).2.1.1 hb
  unfold chk
  rw [if_neg (by show ¬ bsd o = 0; omega), if_neg (by simp), if_neg (by simp), if_pos ⟨by show goodK (bsd o) a 0; rw [h2]; exact (goodK_2 rfl).2 ha, fun n hn => by cases hn⟩]
theorem lineR_kind {k : Bs} {r : List Bs} {o a : Int} {b : Bool} (hk : namesM k = some o) (hb : besN o = -1) (hK : KndR r a b) : LineR (k :: r) ⟨o, a, 0, []⟩ b := by
  obtain ⟨h1, h2, h3, h4⟩ := namesM_y hk
  refine ⟨fun h => ?_, fun h y hy hc e => ?_⟩
  · obtain ⟨ha, hr⟩ := hK.1 h
    refine ⟨⟨⟨h1, h2⟩, ?_, i64_0, fun n hn => by cases hn⟩, chk_kind ⟨h1, h2⟩ hb ha, ?_⟩
    · show I64 a
      rcases ha with rfl | rfl | rfl <;> exact ⟨by decide, by decide⟩
    · unfold wordsI
      rw [restW_1 (x := ⟨o, a, 0, []⟩) hb, ← hr]
      exact congrArg (· :: r) h3
  · obtain ⟨rfl, hr⟩ := words_op hy hc e hk
    have hf := chk_facts hc
    rw [restW_1 hb] at hr
    have := (bes_at hy.1).2.1.1 hb
    exact hK.2 h y.a (hf.2.2.2.2.2.1 this) hr
theorem map_pre : ∀ {ms : List Int} {r : List Bs} {ns : List Int} {i : Nat}, r = ms.map Lib.itoa → r.take i = ns.map Lib.itoa → (∀ n ∈ ms, I64 n) → (∀ n ∈ ns, I64 n) → ns = ms.take i := by
  intro ms r ns i h1 h2 h3 h4
  refine map_itoa_inj h4 (fun n hn => h3 n (List.mem_of_mem_take hn)) ?_
  rw [← h2, h1, List.map_take]
theorem lineR_word {k : Bs} {r : List Bs} {o : Int} {i : Nat} {y : Bs} (hk : namesM k = some o) (hb : besN o ≠ -1) (hx : r[i]? = some y) (hy : ∀ n, I64 n → y ≠ Lib.itoa n) (x : InsD) : LineR (k :: r) x false := by
  refine ⟨nofun, fun _ z hz hc e => ?_⟩
  obtain ⟨ns, h1, h2, _, _⟩ := words_mk hz hc e hk hb
  rw [h1, List.getElem?_map] at hx
  cases hq : ns[i]? with
  | none => rw [hq] at hx; cases hx
  | some n =>
    rw [hq] at hx
    exact hy n (h2 n (List.mem_of_getElem? hq)) (Option.some.inj hx).symm
theorem lineR_cnt {k : Bs} {r : List Bs} {o : Int} {ns : List Int} (hk : namesM k = some o) (hb : besN o ≠ -1) (hr : r = ns.map Lib.itoa) (hn : ¬ cntOk o ns.length) (x : InsD) : LineR (k :: r) x false := by
  refine ⟨nofun, fun _ z hz hc e => ?_⟩
  obtain ⟨ms, h1, h2, h3, _⟩ := words_mk hz hc e hk hb
  have := congrArg List.length (hr.symm.trans h1)
  rw [List.length_map, List.length_map] at this
  rw [← this] at h3
  exact hn h3
theorem lineR_chk {k : Bs} {r : List Bs} {o e : Int} {ns : List Int} (hk : namesM k = some o) (hb : besN o ≠ -1) (hr : r = ns.map Lib.itoa) (hn : cntOk o ns.length) (hI : ∀ n ∈ ns, I64 n) (he : e = chk (mkX o ns)) : LineR (k :: r) (mkX o ns) (vEq e 0) := by
  obtain ⟨h1, h2, h3, h4⟩ := namesM_y hk
  refine ⟨fun h => ⟨mkX_wd ⟨h1, h2⟩ hI, by rw [← he]; exact vEq_t h, by rw [mkX_words h3 hb hn, hr]⟩, fun h z hz hc e' => ?_⟩
  obtain ⟨ms, k1, k2, k3, k4⟩ := words_mk hz hc e' hk hb
  have := map_itoa_inj hI k2 (hr.symm.trans k1)
  subst this
  rw [← k4, hc] at he
  exact vEq_f h he
end Go.Proofs.YtooimjefbdokaaaDoor.Asm
/- Package asm: line. -/
set_option maxRecDepth 100000
set_option maxHeartbeats 4000000
set_option linter.unusedVariables false
set_option linter.unusedSimpArgs false
namespace Go.Proofs.YtooimjefbdokaaaDoor.Asm
open Go Go.Proofs.YtooimjefbdokaaaDoor.Eng Go.RowKit
open Ins Nest
theorem slr_take3 {α : Type} {H : Hv} {R : Hv → List Value → α → Prop} {sz : Nat} {a : Option Addr} {cap : Nat} {xs : List α} {h : Nat} (hs : SlR R sz H (.slice a xs.length cap) xs) (hh : h ≤ xs.length) :
    SlR R sz H (.slice (if h = 0 then a else a.map (·.add (0 * sz))) (h - 0) (h - 0)) (xs.take h) := by
  obtain ⟨a', cap', he, h2, h3, h4⟩ := hs
  injection he with e1 e2 e3
  subst e1; subst e3
  have hp := slr_part (l := 0) (h := h) ⟨a, cap, rfl, h2, h3, h4⟩ (Nat.zero_le _) hh
  rw [List.drop_zero] at hp
  have hlen : (xs.take h).length = h := by rw [List.length_take]; omega
  by_cases h0 : h = 0
  · subst h0
    exact ⟨_, 0, rfl, ⟨Nat.le_refl _, by decide⟩, fun _ => ⟨rfl, rfl⟩, fun hn => absurd rfl hn⟩
  · obtain ⟨b, c2, k1, k2, k3, k4⟩ := hp
    have hc : cap ≠ 0 := by omega
    rw [if_neg hc] at k1
    injection k1 with k1 _ _
    subst k1
    rw [if_neg h0]
    exact ⟨_, h, by rw [hlen]; rfl, ⟨by rw [hlen]; exact Nat.le_refl _, by omega⟩, fun hn => absurd (k3 hn).1 (by intro e; rw [e] at hlen; simp at hlen; omega), k4⟩
section
variable {P : Program} {g : Glob} {α : Type} {en : α → List Value} {ok : α → Prop} {s : Nat} {t e : TypeId} {v : Value} {xs : List α} {K : Value → Prop} {S : World → Prop}
/-- v[:h:h] of a frozen slice, in a region. -/
theorem tkSlF3 {k1 k2 : IntKind} {i j : Int} (hs : FSl g en ok s v xs) (h : Nat) (hi : i = h) (hj : j = h) (ht : P.underlying t = some (.slice e)) (hsz : (P.info? e).map (fun i => i.size) = some s) (hh : h ≤ xs.length)
    (k : ∀ v', FSl g en ok s v' (xs.take h) → K v') : TkP P S (Instr.sliceAt t v none (some (.int k1 i)) (some (.int k2 j))) K := by
  subst hi; subst hj
  obtain ⟨ad, cap, rfl, h2, h3, h4⟩ := hs
  refine TkP.of _ (fun w _ => ?_) (k _ (slr_take3 (sz := s) ⟨ad, cap, rfl, h2, h3, h4⟩ hh))
  refine rSlB (cap := cap) (l := 0) (h := h) (m := h) ht hsz ?_ ⟨rfl, rfl⟩
  unfold Instr.sliceBounds
  simp [run_sliceBound (P := P) w k1 (h : Int) h _ (by omega) (by omega), run_sliceBound (P := P) w k2 (h : Int) cap _ (by omega) (by omega)]
end
section
variable {g : Glob} {w : World} {l : List As}
theorem nm_no {k x1 : Bs} {r : List Bs} {mx : Int} {mc : Bool} (hx : (k :: r)[0]? = some x1) (h : mc = true ∧ namesM x1 = some mx ∨ mc = false ∧ namesM x1 = none ∧ mx = 0) (c : mc = false) : namesM k = none := by
  obtain rfl : k = x1 := Option.some.inj hx
  rcases h with ⟨h, _⟩ | ⟨_, h, _⟩
  · rw [c] at h; cases h
  · exact h
theorem nm_yes {k x1 : Bs} {r : List Bs} {mx : Int} {mc : Bool} (hx : (k :: r)[0]? = some x1) (h : mc = true ∧ namesM x1 = some mx ∨ mc = false ∧ namesM x1 = none ∧ mx = 0) (c : mc = true) : namesM k = some mx := by
  obtain rfl : k = x1 := Option.some.inj hx
  rcases h with ⟨_, h⟩ | ⟨h, _⟩
  · exact h
  · rw [c] at h; cases h
theorem mkX_2 {o : Int} {ns : List Int} {x : Int} (h : besN o = -2) (hx : ns[ns.length - 1]? = some x) : mkX o ns = ⟨o, x, 0, ns.take (ns.length - 1)⟩ := by
  unfold mkX; rw [if_pos h, List.getD_eq_getElem?_getD, hx]; rfl
theorem mkX_3 {o a : Int} (h : besN o = 1) : mkX o [a] = ⟨o, a, 0, []⟩ := by unfold mkX; rw [if_neg (by omega)]; rfl
theorem mkX_4 {o a b : Int} (h : besN o = 2) : mkX o [a, b] = ⟨o, a, b, []⟩ := by unfold mkX; rw [if_neg (by omega)]; rfl
theorem mkX_5 {o : Int} (h : besN o = 0) : mkX o [] = ⟨o, 0, 0, []⟩ := by unfold mkX; rw [if_neg (by omega)]; rfl
theorem lineR_chk2 {k : Bs} {r : List Bs} {o e : Int} {ns : List Int} {x : InsD} (hk : namesM k = some o) (hb : besN o ≠ -1) (hr : r = ns.map Lib.itoa) (hn : cntOk o ns.length) (hI : ∀ n ∈ ns, I64 n) (hm : mkX o ns = x) (he : e = chk x) : LineR (k :: r) x (vEq e 0) := by
  subst hm; exact lineR_chk hk hb hr hn hI he
theorem NumR.yes {s : Bs} {n : Int} {b : Bool} (h : NumR s n b) (c : b = true) : s = Lib.itoa n := h.1 c
theorem NumR.no {s : Bs} {n : Int} {b : Bool} (h : NumR s n b) (c : b = false) : ∀ n', I64 n' → s ≠ Lib.itoa n' := h.2 c
theorem take_word {r : List Bs} {i : Nat} {y : Bs} {ns : List Int} {n : Int} (hy : r[i]? = some y) (hn : r.take i = ns.map Lib.itoa) (h : y = Lib.itoa n) : r.take (i + 1) = (ns ++ [n]).map Lib.itoa := by
  rw [List.take_add_one, hy, hn, List.map_append, h]; rfl
theorem i64_snoc {ns : List Int} {n : Int} (h : ∀ x ∈ ns, I64 x) (hn : I64 n) : ∀ x ∈ ns ++ [n], I64 x := by
  intro x hx
  rcases List.mem_append.1 hx with hx | hx
  · exact h x hx
  · rw [List.mem_singleton] at hx; subst hx; exact hn
theorem line (v : Value) (k : Bs) (r : List Bs) (b n : Nat) (hN : NumF g) (H : Sat g w (Sl 9 1 enW v (k :: r) :: Mp b namesM n :: l)) (hl : r.length ≤ 10000) (hw : ∀ y ∈ k :: r, y.length ≤ 10000) : Fc Tryd.prog 18 #[v, .map (some b)] w (fun q w' => ∃ (g' : Glob) (o a b2 : Int) (tv : Value) (tt : List Int) (ok : Bool), q = .tuple #[.agg #[.int .u8 o, .int .i64 a, .int .i64 b2, tv], .bool ok] ∧ LineR (k :: r) ⟨o, a, b2, tt⟩ ok ∧ Ext g g' ∧ FSl g' enI okI 1 tv tt ∧ Sat g' w' (Mp b namesM n :: l)) := by
  refine Fc.of Tryd.func18 rfl (by kernel_rfl) ?_
  refine rAllocS H rfl ?_
  clear H
  intro p1 w1 H
  obtain ⟨x1, hx1⟩ : ∃ x, (k :: r)[0]? = some x := ⟨_, List.getElem?_eq_getElem (by (simp only [List.length_append, List.length_set, List.length_cons, List.length_nil]; omega))⟩
  obtain ⟨b1, o1, E1⟩ := H.elt 1 rfl 0 (by (simp only [List.length_append, List.length_set, List.length_cons, List.length_nil]; omega))
  refine rIxE E1 rfl rfl rfl ?_
  refine rLd (H.el 1 rfl E1 hx1) 0 rfl rfl rfl ?_
  refine rMapGet H 2 rfl rfl rfl rfl ?_
  intro mx1 mc1 hm1
  refine cI (fun c1 => ?_) (fun c1 => ?_)
  · replace c1 := not_t (c1)
    refine rBuild rfl rfl rfl ?_
    refine rStAS H 0 rfl rfl rfl rfl ?_
    clear H
    intro w2 H
    clear w1
    refine rdAN (H.at 0 rfl) 0 rfl rfl rfl ?_
    refine Done.mk ?_
    exact ⟨g, 0, 0, 0, _, [], false, rfl, lineR_name (nm_no hx1 hm1 c1) _, Ext.refl g, FSl.nil0 _ _ _ _, H.tl.tl⟩
  replace c1 := not_f (c1)
  refine rConvU8M rfl rfl ?_
  refine rBuild rfl rfl rfl ?_
  refine rAllocS H rfl ?_
  clear H
  intro p2 w2 H
  clear w1
  refine rStAS H 0 rfl rfl rfl rfl ?_
  clear H
  intro w1 H
  clear w2
  refine rSlS H 2 rfl 1 (k :: r).length rfl rfl (by (simp only [List.length_append, List.length_set, List.length_cons, List.length_nil]; omega)) (by (simp only [List.length_append, List.length_set, List.length_cons, List.length_nil]; omega)) (.inr ⟨_, by first | rfl | (congr 2; (simp only [List.length_append, List.length_set, List.length_cons, List.length_nil]; omega))⟩) (.inl ⟨rfl, rfl⟩) ?_
  intro v1
  clear H
  intro H
  refine rFieldAt rfl ?_
  refine rLd (H.at 0 rfl) 0 rfl rfl rfl ?_
  have hk := nm_yes hx1 hm1 c1
  obtain ⟨ho1, ho2, ho3, ho4⟩ := namesM_y hk
  have hmod : mx1 % 256 = mx1 := by omega
  have hdr : List.drop 1 (List.take (k :: r).length (k :: r)) = r := by rw [List.take_length]; rfl
  rw [hmod] at H ⊢
  rw [hdr] at H
  clear hm1 hmod hdr
  by_cases hb : besN mx1 = -1
  · refine CallP.mk (Fc.imp (Go.Proofs.YtooimjefbdokaaaDoor.Asm.beside _ _) ?_)
    rintro _ _ ⟨⟨r1, ⟨rfl, h1⟩⟩, rfl⟩
    refine cT (vEq_T (by omega)) ?_
    refine rLdA (H.at 0 rfl) 0 rfl rfl rfl ?_
    refine CallP.mk (Fc.imp (Go.Proofs.YtooimjefbdokaaaDoor.Asm.kind _ _ _ _ (H.rdo 2 rfl ?_)) ?_)
    · (simp; done)
    rintro _ w2 ⟨a1, ⟨b2, ⟨rfl, ⟨h2, ⟨h3, H'⟩⟩⟩⟩⟩
    refine H.mergeK H' ?_
    clear H H'
    intro H
    refine rStAS H 1 rfl rfl rfl rfl ?_
    clear H
    intro w3 H
    clear w2
    refine rdAN (H.at 1 rfl) 0 rfl rfl rfl ?_
    refine Done.mk ?_
    exact ⟨g, mx1, _, 0, _, [], _, rfl, lineR_kind hk hb (by assumption), Ext.refl g, FSl.nil0 _ _ _ _, H.tl.tl.tl⟩
  · refine CallP.mk (Fc.imp (Go.Proofs.YtooimjefbdokaaaDoor.Asm.beside _ _) ?_)
    rintro _ _ ⟨⟨r1, ⟨rfl, h1⟩⟩, rfl⟩
    refine cF (vEq_F (by omega)) ?_
    refine rLenS H 2 rfl rfl ?_
    replace H := H.sl0 (en := enI) (s := 1) 2 (fun _ => rfl)
    refine LoopP.rule (α := Nat × Value × List Int) (0, .slice none 0 0, []) (fun x_ => [(43, .int .i64 x_.1), (10, x_.2.1)]) (fun x_ w_ => (x_.1 ≤ r.length) ∧ (r.take x_.1 = x_.2.2.map Lib.itoa) ∧ (∀ n ∈ x_.2.2, I64 n) ∧ (x_.2.2.length = x_.1) ∧ Sat g w_ ((Sl 2 1 enI x_.2.1 x_.2.2 :: Pt p2 [Value.int .u8 mx1, Value.int .i64 0, Value.int .i64 0, Value.slice none 0 0] 38 :: Pt p1 [Value.int .u8 0, Value.int .i64 0, Value.int .i64 0, Value.slice none 0 0] 38 :: Sl 9 1 enW v1 r :: Mp b namesM n :: l))) (fun x_ => r.length - x_.1) ?_ ?_ ?_
    · repeat first | exact mt_nil | refine mt_cons rfl ?_ | refine mt_i rfl (by first | omega | (simp only; omega) | (simp; omega) | (simp; done)) ?_
    · try simp only
      refine ⟨?_, ?_⟩
      · omega
      refine ⟨?_, ?_⟩
      · rfl
      refine ⟨?_, ?_⟩
      · nofun
      refine ⟨?_, ?_⟩
      · rfl
      exact H
    clear H
    rintro ⟨i, va, ns⟩ f_ w_ ⟨hi, hn, hI, hnl, H⟩
    try simp only at hi hn hI hnl H ⊢
    by_cases hlt : i < r.length
    · obtain ⟨y, hy⟩ : ∃ y, r[i]? = some y := ⟨_, List.getElem?_eq_getElem hlt⟩
      have hyl := hw y (List.mem_cons_of_mem _ (List.mem_of_getElem? hy))
      refine cT (vLt_T (by omega)) ?_
      refine bk ?_
      obtain ⟨b2, o2, E2⟩ := H.elt 3 rfl (i) (by omega)
      refine rIxE E2 rfl rfl rfl ?_
      refine rLd (H.el 3 rfl E2 hy) 0 rfl rfl rfl ?_
      refine CallP.mk (Fc.imp (Go.Proofs.YtooimjefbdokaaaDoor.Asm.number H ?_ _ ?_) ?_)
      · assumption
      · omega
      clear H
      rintro _ w2 ⟨n1, ⟨b3, ⟨rfl, ⟨h2, ⟨h3, H⟩⟩⟩⟩⟩
      refine cI (fun c2 => ?_) (fun c2 => ?_)
      · replace c2 := not_t (c2)
        refine rBuild rfl rfl rfl ?_
        refine rStAS H 2 rfl rfl rfl rfl ?_
        clear H
        intro w3 H
        clear w2
        refine rdAN (H.at 2 rfl) 0 rfl rfl rfl ?_
        refine Done.mk ?_
        exact ⟨g, 0, 0, 0, _, [], false, rfl, lineR_word hk hb hy (NumR.no (by assumption) (by assumption)) _, Ext.refl g, FSl.nil0 _ _ _ _, H.tl.tl.tl.tl⟩
      replace c2 := not_f (c2)
      refine rBuildSliceS H rfl rfl rfl rfl ?_
      clear H
      intro p3 w3 H
      clear w2
      refine rApS (ys := [_]) 8 H 1 rfl (H.at 0 rfl) rfl (fun y _ => rfl) rfl rfl rfl (by omega) (by omega) ?_
      intro v2
      clear H
      intro w2 H
      clear w3
      refine eqI64 (by omega) ?_
      refine Nxt.mk ((i + 1, v2, ns ++ [n1])) (mt_i rfl (by first | omega | (simp only; omega) | (simp; omega)) (mt_cons rfl (mt_nil))) ?_ ?_
      · refine ⟨?_, ?_⟩
        · assumption
        refine ⟨?_, ?_⟩
        · exact take_word hy hn (NumR.yes (by assumption) (by assumption))
        refine ⟨?_, ?_⟩
        · exact i64_snoc hI (by assumption)
        refine ⟨?_, ?_⟩
        · (simp only [List.length_append, List.length_set, List.length_cons, List.length_nil]; omega)
        refine H.fronts [5, 5, 5, 5, 5] ?_
        clear H
        intro H
        refine H.drop 5 ?_
        clear H
        intro H
        exact H
      omega
    · have hr : r = ns.map Lib.itoa := by rw [← hn, List.take_of_length_le (by omega)]
      by_cases hcn : cntOk mx1 ns.length
      · rcases bes_cases mx1 with hc | hc | hc | hc | hc
        · exact absurd hc hb
        · have hlen : 1 ≤ ns.length ∧ ns.length ≤ 17 := by unfold cntOk at hcn; rw [if_pos hc] at hcn; exact hcn
          obtain ⟨x2, hx2⟩ : ∃ x, ns[ns.length - 1]? = some x := ⟨_, List.getElem?_eq_getElem (by omega)⟩
          have hx2i := hI x2 (List.mem_of_getElem? hx2)
          have hm := mkX_2 hc hx2
          refine H.frz1 0 okI rfl hI ?_
          intro g1 HE hf
          clear H
          intro H
          have E := HE
          clear HE
          refine cF (vLt_F (by omega)) ?_
          refine br_f (vLe_F (by omega)) ?_
          refine br_t (vLt_T (by omega)) ?_
          refine rLenF hf rfl ?_
          refine br_f (vEq_F (by omega)) ?_
          refine rLenF hf rfl ?_
          refine cF (vLt_F (by omega)) ?_
          refine bk ?_
          refine cT (vLt_T (by omega)) ?_
          refine drawzS H [0] [(0, .pure), (1, .pure), (2, .pure), (3, .pure), (4, .pure), (5, .pure), (6, .pure), (7, .pure), (8, .pure), (9, .pure), (10, .pure), (11, .pure), (12, .pure), (13, .held), (14, .pure), (15, .forced), (16, .pure), (17, .free)] mixed (by kernel_rfl) (by kernel_rfl) ?_
          clear H
          intro w2 H
          clear w_
          refine tk (fun wx HS => rLenF hf rfl ⟨rfl, rfl⟩) ?_
          refine eqI64 (by omega) ?_
          refine tk (fun wx HS => rLenF hf rfl ⟨rfl, rfl⟩) ?_
          refine eqI64 (by omega) ?_
          refine tkSlF3 hf (((ns.length) - 1)) (by omega) (by omega) rfl rfl (by omega) ?_
          intro v2 hs1
          refine tk (fun wx HS => rLenF hf rfl ⟨rfl, rfl⟩) ?_
          refine eqI64 (by omega) ?_
          obtain ⟨b2, o2, E2, F1, hok1⟩ := FSl.elt hf hx2
          refine tk (fun wx HS => rIxE E2 (by omega) rfl rfl ⟨rfl, rfl⟩) ?_
          refine tk (fun wx HS => rLd (HS.fat F1) 0 rfl rfl rfl ⟨rfl, rfl⟩) ?_
          refine tk (fun wx HS => rFieldAt rfl ⟨rfl, rfl⟩) ?_
          refine rStS H 0 rfl rfl rfl (by simp only [Bool.and_true, H.one 2 rfl, FSl.one hs1, FSl.one hf]) ?_
          clear H
          intro w3 H
          clear w2
          refine KeepP.mk (H.drop 0 (fun H => H)) ?_
          refine tk (fun wx HS => rFieldAt rfl ⟨rfl, rfl⟩) ?_
          refine rStS H 0 rfl rfl rfl rfl ?_
          clear H
          intro w2 H
          clear w3
          refine drawzS H [] [(0, .held), (1, .held), (2, .forced), (3, .pure), (4, .free), (5, .pure)] mixed (by kernel_rfl) (by kernel_rfl) ?_
          clear H
          intro w3 H
          clear w2
          refine tk (fun wx HS => rLdA (HS.at 0 rfl) 0 rfl rfl rfl ⟨rfl, rfl⟩) ?_
          refine tk (fun wx HS => rLdA (HS.at 0 rfl) 0 rfl rfl rfl ⟨rfl, rfl⟩) ?_
          refine CallP.mk (Fc.imp (Go.Proofs.YtooimjefbdokaaaDoor.Ins.check _ _ _ _ _ _ ?_ (H.rd hs1)) ?_)
          · assumption
          rintro _ w2 ⟨⟨r2, ⟨rfl, h2⟩⟩, H'⟩
          refine H.mergeK H' ?_
          clear H H'
          intro H
          refine KeepP.mk (H) ?_
          refine rStAS H 1 rfl rfl rfl (by simp only [List.all_cons, List.all_nil, H.one 2 rfl, FSl.one hs1, FSl.one hf]; rfl) ?_
          clear H
          intro w4 H
          clear w2
          refine rdAN (H.at 1 rfl) 0 rfl rfl rfl ?_
          refine Done.mk ?_
          exact ⟨g1, mx1, x2, 0, _, ns.take (ns.length - 1), _, rfl, lineR_chk2 hk hb hr hcn hI hm (by assumption), E, by assumption, H.tl.tl.tl⟩
        · have hlen : ns.length = 1 := by unfold cntOk at hcn; rw [if_neg (by omega), hc] at hcn; omega
          obtain ⟨n1, rfl⟩ := List.length_eq_one_iff.1 hlen
          have hm := mkX_3 (a := n1) hc
          have hI1 := hI n1 (List.mem_cons_self ..)
          refine cF (vLt_F (by omega)) ?_
          refine br_t (vLe_T (by omega)) ?_
          refine rLenS H 0 rfl rfl ?_
          refine br_f (vNe_F (by omega)) ?_
          refine br_f (vLt_F (by omega)) ?_
          refine cF rfl ?_
          refine bk ?_
          refine cF (vLt_F (by omega)) ?_
          refine cT (vEq_T (by omega)) ?_
          obtain ⟨x2, hx2⟩ : ∃ x, ([n1])[0]? = some x := ⟨_, List.getElem?_eq_getElem (by omega)⟩
          obtain ⟨b2, o2, E2⟩ := H.elt 0 rfl 0 (by omega)
          refine rIxE E2 rfl rfl rfl ?_
          refine rLd (H.el 0 rfl E2 hx2) 0 rfl rfl rfl ?_
          refine rFieldAt rfl ?_
          refine rStS H 1 rfl rfl rfl rfl ?_
          clear H
          intro w2 H
          clear w_
          refine drawzS H [] [(0, .held), (1, .held), (2, .forced), (3, .pure), (4, .free), (5, .pure)] mixed (by kernel_rfl) (by kernel_rfl) ?_
          clear H
          intro w3 H
          clear w2
          refine tk (fun wx HS => rLdA (HS.at 1 rfl) 0 rfl rfl rfl ⟨rfl, rfl⟩) ?_
          refine tk (fun wx HS => rLdA (HS.at 1 rfl) 0 rfl rfl rfl ⟨rfl, rfl⟩) ?_
          obtain rfl : n1 = x2 := Option.some.inj hx2
          refine CallP.mk (Fc.imp (Go.Proofs.YtooimjefbdokaaaDoor.Ins.check _ _ _ _ _ _ ?_ (SlR.nil _ _ _)) ?_)
          · assumption
          rintro _ w2 ⟨⟨r2, ⟨rfl, h2⟩⟩, H'⟩
          refine H.mergeK H' ?_
          clear H H'
          intro H
          refine KeepP.mk (H) ?_
          refine rStAS H 2 rfl rfl rfl rfl ?_
          clear H
          intro w4 H
          clear w2
          refine rdAN (H.at 2 rfl) 0 rfl rfl rfl ?_
          refine Done.mk ?_
          exact ⟨g, mx1, n1, 0, _, [], _, rfl, lineR_chk2 hk hb hr hcn hI hm (by assumption), Ext.refl g, FSl.nil0 _ _ _ _, H.tl.tl.tl.tl⟩
        · have hlen : ns.length = 2 := by unfold cntOk at hcn; rw [if_neg (by omega), hc] at hcn; omega
          obtain ⟨n1, n2, rfl⟩ : ∃ n1 n2, ns = [n1, n2] := by
            match ns, hlen with
            | [a, b], _ => exact ⟨a, b, rfl⟩
          have hm := mkX_4 (a := n1) (b := n2) hc
          have hI1 := hI n1 (List.mem_cons_self ..)
          have hI2 := hI n2 (List.mem_cons_of_mem _ (List.mem_cons_self ..))
          refine cF (vLt_F (by omega)) ?_
          refine br_t (vLe_T (by omega)) ?_
          refine rLenS H 0 rfl rfl ?_
          refine br_f (vNe_F (by omega)) ?_
          refine br_f (vLt_F (by omega)) ?_
          refine cF rfl ?_
          refine bk ?_
          refine cF (vLt_F (by omega)) ?_
          refine cF (vEq_F (by omega)) ?_
          refine cT (vEq_T (by omega)) ?_
          refine drawzS H [1] [(0, .pure), (1, .pure), (2, .held), (3, .pure), (4, .pure), (5, .held), (6, .pure), (7, .forced), (8, .pure), (9, .free)] mixed (by kernel_rfl) (by kernel_rfl) ?_
          clear H
          intro w2 H
          clear w_
          obtain ⟨x2, hx2⟩ : ∃ x, ([n1, n2])[0]? = some x := ⟨_, List.getElem?_eq_getElem (by omega)⟩
          obtain ⟨b2, o2, E2⟩ := H.elt 0 rfl 0 (by omega)
          refine tk (fun wx HS => rIxE E2 rfl rfl rfl ⟨rfl, rfl⟩) ?_
          refine tk (fun wx HS => rLd (HS.el 0 rfl E2 hx2) 0 rfl rfl rfl ⟨rfl, rfl⟩) ?_
          obtain ⟨x3, hx3⟩ : ∃ x, ([n1, n2])[1]? = some x := ⟨_, List.getElem?_eq_getElem (by omega)⟩
          obtain ⟨b3, o3, E3⟩ := H.elt 0 rfl 1 (by omega)
          refine tk (fun wx HS => rIxE E3 rfl rfl rfl ⟨rfl, rfl⟩) ?_
          refine tk (fun wx HS => rLd (HS.el 0 rfl E3 hx3) 0 rfl rfl rfl ⟨rfl, rfl⟩) ?_
          refine tk (fun wx HS => rFieldAt rfl ⟨rfl, rfl⟩) ?_
          refine rStS H 1 rfl rfl rfl rfl ?_
          clear H
          intro w3 H
          clear w2
          refine KeepP.mk (H.drop 1 (fun H => H)) ?_
          refine tk (fun wx HS => rFieldAt rfl ⟨rfl, rfl⟩) ?_
          refine rStS H 1 rfl rfl rfl rfl ?_
          clear H
          intro w2 H
          clear w3
          refine drawzS H [] [(0, .held), (1, .held), (2, .forced), (3, .pure), (4, .free), (5, .pure)] mixed (by kernel_rfl) (by kernel_rfl) ?_
          clear H
          intro w3 H
          clear w2
          refine tk (fun wx HS => rLdA (HS.at 1 rfl) 0 rfl rfl rfl ⟨rfl, rfl⟩) ?_
          refine tk (fun wx HS => rLdA (HS.at 1 rfl) 0 rfl rfl rfl ⟨rfl, rfl⟩) ?_
          obtain rfl : n1 = x2 := Option.some.inj hx2
          obtain rfl : n2 = x3 := Option.some.inj hx3
          refine CallP.mk (Fc.imp (Go.Proofs.YtooimjefbdokaaaDoor.Ins.check _ _ _ _ _ _ ?_ (SlR.nil _ _ _)) ?_)
          · assumption
          rintro _ w2 ⟨⟨r2, ⟨rfl, h2⟩⟩, H'⟩
          refine H.mergeK H' ?_
          clear H H'
          intro H
          refine KeepP.mk (H) ?_
          refine rStAS H 2 rfl rfl rfl rfl ?_
          clear H
          intro w4 H
          clear w2
          refine rdAN (H.at 2 rfl) 0 rfl rfl rfl ?_
          refine Done.mk ?_
          exact ⟨g, mx1, n1, n2, _, [], _, rfl, lineR_chk2 hk hb hr hcn hI hm (by assumption), Ext.refl g, FSl.nil0 _ _ _ _, H.tl.tl.tl.tl⟩
        · have hlen : ns.length = 0 := by unfold cntOk at hcn; rw [if_neg (by omega), hc] at hcn; omega
          obtain rfl := List.length_eq_zero_iff.1 hlen
          have hm := mkX_5 hc
          refine cF (vLt_F (by omega)) ?_
          refine br_t (vLe_T (by omega)) ?_
          refine rLenS H 0 rfl rfl ?_
          refine br_f (vNe_F (by omega)) ?_
          refine br_f (vLt_F (by omega)) ?_
          refine cF rfl ?_
          refine bk ?_
          refine cF (vLt_F (by omega)) ?_
          refine cF (vEq_F (by omega)) ?_
          refine cF (vEq_F (by omega)) ?_
          refine drawzS H [] [(0, .held), (1, .held), (2, .forced), (3, .pure), (4, .free), (5, .pure)] mixed (by kernel_rfl) (by kernel_rfl) ?_
          clear H
          intro w2 H
          clear w_
          refine tk (fun wx HS => rLdA (HS.at 1 rfl) 0 rfl rfl rfl ⟨rfl, rfl⟩) ?_
          refine tk (fun wx HS => rLdA (HS.at 1 rfl) 0 rfl rfl rfl ⟨rfl, rfl⟩) ?_
          refine CallP.mk (Fc.imp (Go.Proofs.YtooimjefbdokaaaDoor.Ins.check _ _ _ _ _ _ ?_ (SlR.nil _ _ _)) ?_)
          · omega
          rintro _ w3 ⟨⟨r2, ⟨rfl, h2⟩⟩, H'⟩
          refine H.mergeK H' ?_
          clear H H'
          intro H
          refine KeepP.mk (H) ?_
          refine rStAS H 2 rfl rfl rfl rfl ?_
          clear H
          intro w4 H
          clear w3
          refine rdAN (H.at 2 rfl) 0 rfl rfl rfl ?_
          refine Done.mk ?_
          exact ⟨g, mx1, 0, 0, _, [], _, rfl, lineR_chk2 hk hb hr hcn hI hm (by assumption), Ext.refl g, FSl.nil0 _ _ _ _, H.tl.tl.tl.tl⟩
      · have hcn2 := hcn
        unfold cntOk at hcn2
        rcases bes_cases mx1 with hc | hc | hc | hc | hc
        · exact absurd hc hb
        · rw [if_pos hc] at hcn2
          refine cF (vLt_F (by omega)) ?_
          refine br_f (vLe_F (by omega)) ?_
          refine br_t (vLt_T (by omega)) ?_
          refine rLenS H 0 rfl rfl ?_
          refine br (fun c2 => ?_) (fun c2 => ?_)
          · replace c2 := vEq_t (c2)
            refine cT rfl ?_
            refine rBuild rfl rfl rfl ?_
            refine rStAS H 2 rfl rfl rfl rfl ?_
            clear H
            intro w2 H
            clear w_
            refine rdAN (H.at 2 rfl) 0 rfl rfl rfl ?_
            refine Done.mk ?_
            exact ⟨g, 0, 0, 0, _, [], false, rfl, lineR_cnt hk hb hr hcn _, Ext.refl g, FSl.nil0 _ _ _ _, H.tl.tl.tl.tl⟩
          replace c2 := vEq_f (c2)
          refine rLenS H 0 rfl rfl ?_
          refine cT (vLt_T (by omega)) ?_
          refine rBuild rfl rfl rfl ?_
          refine rStAS H 2 rfl rfl rfl rfl ?_
          clear H
          intro w2 H
          clear w_
          refine rdAN (H.at 2 rfl) 0 rfl rfl rfl ?_
          refine Done.mk ?_
          exact ⟨g, 0, 0, 0, _, [], false, rfl, lineR_cnt hk hb hr hcn _, Ext.refl g, FSl.nil0 _ _ _ _, H.tl.tl.tl.tl⟩
        · rw [if_neg (by omega)] at hcn2
          refine cF (vLt_F (by omega)) ?_
          refine br_t (vLe_T (by omega)) ?_
          refine rLenS H 0 rfl rfl ?_
          refine br_t (vNe_T (by omega)) ?_
          refine cT rfl ?_
          refine rBuild rfl rfl rfl ?_
          refine rStAS H 2 rfl rfl rfl rfl ?_
          clear H
          intro w2 H
          clear w_
          refine rdAN (H.at 2 rfl) 0 rfl rfl rfl ?_
          refine Done.mk ?_
          exact ⟨g, 0, 0, 0, _, [], false, rfl, lineR_cnt hk hb hr hcn _, Ext.refl g, FSl.nil0 _ _ _ _, H.tl.tl.tl.tl⟩
        · rw [if_neg (by omega)] at hcn2
          refine cF (vLt_F (by omega)) ?_
          refine br_t (vLe_T (by omega)) ?_
          refine rLenS H 0 rfl rfl ?_
          refine br_t (vNe_T (by omega)) ?_
          refine cT rfl ?_
          refine rBuild rfl rfl rfl ?_
          refine rStAS H 2 rfl rfl rfl rfl ?_
          clear H
          intro w2 H
          clear w_
          refine rdAN (H.at 2 rfl) 0 rfl rfl rfl ?_
          refine Done.mk ?_
          exact ⟨g, 0, 0, 0, _, [], false, rfl, lineR_cnt hk hb hr hcn _, Ext.refl g, FSl.nil0 _ _ _ _, H.tl.tl.tl.tl⟩
        · rw [if_neg (by omega)] at hcn2
          refine cF (vLt_F (by omega)) ?_
          refine br_t (vLe_T (by omega)) ?_
          refine rLenS H 0 rfl rfl ?_
          refine br_t (vNe_T (by omega)) ?_
          refine cT rfl ?_
          refine rBuild rfl rfl rfl ?_
          refine rStAS H 2 rfl rfl rfl rfl ?_
          clear H
          intro w2 H
          clear w_
          refine rdAN (H.at 2 rfl) 0 rfl rfl rfl ?_
          refine Done.mk ?_
          exact ⟨g, 0, 0, 0, _, [], false, rfl, lineR_cnt hk hb hr hcn _, Ext.refl g, FSl.nil0 _ _ _ _, H.tl.tl.tl.tl⟩
end
end Go.Proofs.YtooimjefbdokaaaDoor.Asm
/- Package asm: Read. -/
set_option maxRecDepth 100000
set_option maxHeartbeats 4000000
set_option linter.unusedVariables false
set_option linter.unusedSimpArgs false
namespace Go.Proofs.YtooimjefbdokaaaDoor.Asm
open Go Go.Proofs.YtooimjefbdokaaaDoor.Eng Go.RowKit
open Ins Nest
section
variable {g : Glob} {w : World} {l : List As}
def Good (z : InsD) : Prop := Wd z ∧ chk z = 0
/-- What Read answers. -/
def ReadR (s : Bs) (ds : List InsD) (k e : Int) : Prop :=
  (6000 < s.length ∧ ds = [] ∧ k = 0 ∧ e = 2) ∨
  (s.length ≤ 6000 ∧ ((ds = [] ∧ (0 < k ∧ k ≤ (cutC 10 [] s).length) ∧ e = 11 ∧ ∀ zs : List InsD, (∀ z ∈ zs, Good z) → zs.map wordsI ≠ allW s) ∨
    ∃ zs : List InsD, (∀ z ∈ zs, Good z) ∧ zs.map wordsI = allW s ∧ k = 0 ∧ e = chkB zs ∧ ds = if chkB zs = 0 then zs else []))
/-- The words of the first lines. -/
def wordsTo (ls : List Bs) (i : Nat) : List (List Bs) := ((ls.take i).map wordsOf).filter fun l => !l.isEmpty
theorem wordsTo_none {ls : List Bs} {i : Nat} {x : Bs} (hx : ls[i]? = some x) (h : wordsOf x = []) : wordsTo ls (i + 1) = wordsTo ls i := by
  unfold wordsTo
  rw [List.take_add_one, hx, List.map_append, List.filter_append]
  simp [h]
theorem wordsTo_some {ls : List Bs} {i : Nat} {x k : Bs} {r : List Bs} (hx : ls[i]? = some x) (h : wordsOf x = k :: r) : wordsTo ls (i + 1) = wordsTo ls i ++ [k :: r] := by
  unfold wordsTo
  rw [List.take_add_one, hx, List.map_append, List.filter_append]
  simp [h]
theorem wordsTo_all {s : Bs} {ls : List Bs} {i : Nat} (hl : ls = cutC 10 [] s) (h : ls.length ≤ i) : wordsTo ls i = allW s := by
  unfold wordsTo allW
  rw [List.take_of_length_le h, hl]
theorem read_bad {s : Bs} {ls : List Bs} {i : Nat} {x k : Bs} {r : List Bs} {y : InsD} {b : Bool} (hl : ls = cutC 10 [] s) (hx : ls[i]? = some x) (h : wordsOf x = k :: r) (hR : LineR (k :: r) y b) (hb : b = false) (zs : List InsD) (hz : ∀ z ∈ zs, Good z) : zs.map wordsI ≠ allW s := by
  intro e
  have hm : k :: r ∈ allW s := by
    unfold allW
    rw [List.mem_filter]
    refine ⟨List.mem_map.2 ⟨x, by rw [← hl]; exact List.mem_of_getElem? hx, h⟩, rfl⟩
  rw [← e] at hm
  obtain ⟨z, h1, h2⟩ := List.mem_map.1 hm
  exact hR.2 hb z (hz z h1).1 (hz z h1).2 h2
theorem read_end {s : Bs} {ls : List Bs} {i : Nat} {ys : List InsV} {e : Int} (hl : ls = cutC 10 [] s) (hi : ls.length ≤ i) (hs : s.length ≤ 6000) (hw : ys.map (fun y => wordsI y.d) = wordsTo ls i) (hg : ∀ y ∈ ys, Good y.d) (he : e = chkB (ys.map InsV.d)) : (e = 0 → ReadR s (ys.map InsV.d) 0 0) ∧ (e ≠ 0 → ReadR s (([] : List InsV).map InsV.d) 0 e) := by
  have h1 : ∀ z ∈ ys.map InsV.d, Good z := fun z hz => by
    obtain ⟨y, h1, rfl⟩ := List.mem_map.1 hz
    exact hg y h1
  have h2 : (ys.map InsV.d).map wordsI = allW s := by rw [List.map_map, ← wordsTo_all hl hi, ← hw]; rfl
  exact ⟨fun h => .inr ⟨hs, .inr ⟨_, h1, h2, rfl, by rw [← he, h], by rw [← he, if_pos h]⟩⟩, fun h => .inr ⟨hs, .inr ⟨_, h1, h2, rfl, he, by rw [← he, if_neg h]; rfl⟩⟩⟩
theorem full_take0 (ps : List Bs) : full (ps.take 0) = [] := rfl
theorem full_skip {ps : List Bs} {j : Nat} (h : ps[j]? = some []) : full (ps.take (j + 1)) = full (ps.take j) := by
  rw [List.take_add_one, h, full_app]; simp [full]
theorem full_take {ps : List Bs} {j : Nat} {x : Bs} (h : ps[j]? = some x) (hx : x ≠ []) : full (ps.take (j + 1)) = full (ps.take j) ++ [x] := by
  rw [List.take_add_one, h, full_app, show full (Option.toList (some x)) = [x] from full_id (by simpa using hx)]
theorem full_len (l : List Bs) : (full l).length ≤ l.length := List.length_filter_le _ _
theorem full_mem {l : List Bs} {x : Bs} (h : x ∈ full l) : x ∈ l := (List.mem_filter.1 h).1
theorem snoc_w {ls : List Bs} {ys : List InsV} {y : InsV} {i : Nat} {x k : Bs} {r : List Bs} {b : Bool} (hR : LineR (k :: r) y.d b) (c : b = true) (h : ys.map (fun y => wordsI y.d) = wordsTo ls i) (hx : ls[i]? = some x) (hk : wordsOf x = k :: r) : (ys ++ [y]).map (fun y => wordsI y.d) = wordsTo ls (i + 1) := by
  rw [List.map_append, h, wordsTo_some hx hk, ← (hR.1 c).2.2]; rfl
theorem snoc_v {g : Glob} {ys : List InsV} {y : InsV} {ws : List Bs} {b : Bool} (hR : LineR ws y.d b) (c : b = true) (h : ∀ y ∈ ys, okV g y) (hf : FSl g enI okI 1 y.tv y.to) : ∀ z ∈ ys ++ [y], okV g z := by
  intro z hz
  rcases List.mem_append.1 hz with hz | hz
  · exact h z hz
  · rw [List.mem_singleton] at hz
    subst hz
    obtain ⟨h1, h2, h3, _⟩ := (hR.1 c).1
    exact ⟨h1, h2, h3, hf⟩
theorem snoc_g {ys : List InsV} {y : InsV} {ws : List Bs} {b : Bool} (hR : LineR ws y.d b) (c : b = true) (h : ∀ y ∈ ys, Good y.d) : ∀ z ∈ ys ++ [y], Good z.d := by
  intro z hz
  rcases List.mem_append.1 hz with hz | hz
  · exact h z hz
  · rw [List.mem_singleton] at hz
    subst hz
    exact ⟨(hR.1 c).1, (hR.1 c).2.1⟩
theorem NumF.ext {g g' : Glob} (h : NumF g) (E : Ext g g') : NumF g' := ⟨fun w l H => h.tab w l (H.forget E), by obtain ⟨ev, h1, h2⟩ := h.syn; exact ⟨ev, h1.ext E, h2⟩, by obtain ⟨ev, h1, h2⟩ := h.rng; exact ⟨ev, h1.ext E, h2⟩⟩
theorem read (s : Bs) (m : Int) (H : Sat g w l) (hM : FAt g 0 0 [.int .i64 m]) (hN : NumF g) (hs : s.length ≤ 9223372036854775807) : Fc Tryd.prog 6 #[.string (bs s)] w (fun q w' => ∃ (g' : Glob) (v : Value) (xs : List InsV) (k e : Int), q = .tuple #[v, .int .i64 k, .int .i64 e] ∧ ReadR s (xs.map InsV.d) k e ∧ Ext g g' ∧ FSl g' enV (okV g') 4 v xs ∧ Sat g' w' l) := by
  refine Fc.of Tryd.func6 rfl (by kernel_rfl) ?_
  refine rLenStr rfl ?_
  refine cI (fun c1 => ?_) (fun c1 => ?_)
  · replace c1 := vLt_t (c1)
    refine Done.mk ?_
    exact ⟨g, _, [], 0, 2, rfl, .inl ⟨by omega, rfl, rfl, rfl⟩, Ext.refl g, FSl.nil0 _ _ _ _, H⟩
  replace c1 := vLt_f (c1)
  refine CallP.mk (Fc.imp (Go.Proofs.YtooimjefbdokaaaDoor.Asm.numbers H _ hM) ?_)
  clear H
  rintro _ w1 ⟨b1, ⟨f1, ⟨n1, ⟨rfl, ⟨h1, H⟩⟩⟩⟩⟩
  refine CallP.mk (Fc.imp (Go.Proofs.YtooimjefbdokaaaDoor.Asm.splitC H _ hM _ _ ?_) ?_)
  · omega
  clear H
  rintro v' w2 ⟨xs1, ⟨h2, H⟩⟩
  refine rLenS H 0 rfl rfl ?_
  subst h1
  have hsl : s.length ≤ 6000 := by omega
  have hll := cutC_len 10 s []
  have hlm := cutC_mem 10 s []
  rw [← h2] at hll hlm
  have E := Ext.refl g
  replace H := H.sl0 (en := enV) (s := 4) 38 (fun _ => rfl)
  refine LoopP.rule (α := Glob × Nat × Value × List InsV) (g, 0, .slice none 0 0, []) (fun x_ => [(6, x_.2.2.1), (22, .int .i64 x_.2.1)]) (fun x_ w_ => (Ext g x_.1) ∧ (x_.2.1 ≤ xs1.length) ∧ (x_.2.2.2.map (fun y => wordsI y.d) = wordsTo xs1 x_.2.1) ∧ (∀ y ∈ x_.2.2.2, okV x_.1 y) ∧ (∀ y ∈ x_.2.2.2, Good y.d) ∧ (x_.2.2.2.length ≤ x_.2.1) ∧ Sat x_.1 w_ ((Sl 38 4 enV x_.2.2.1 x_.2.2.2 :: Sl 9 1 enW v' xs1 :: Mp b1 namesM n1 :: l))) (fun x_ => xs1.length - x_.2.1) ?_ ?_ ?_
  · repeat first | exact mt_nil | refine mt_cons rfl ?_ | refine mt_i rfl (by first | omega | (simp only; omega) | (simp; omega) | (simp; done)) ?_
  · try simp only
    refine ⟨?_, ?_⟩
    · assumption
    refine ⟨?_, ?_⟩
    · omega
    refine ⟨?_, ?_⟩
    · rfl
    refine ⟨?_, ?_⟩
    · nofun
    refine ⟨?_, ?_⟩
    · nofun
    refine ⟨?_, ?_⟩
    · (constructor <;> omega)
    exact H
  clear H
  rintro ⟨gg, i, ve, ys⟩ f_ w_ ⟨E, hi, hyw, hys, hyg, hyl, H⟩
  try simp only at E hi hyw hys hyg hyl H ⊢
  have hN' := hN.ext E
  have hM' := hM.ext E
  by_cases hlt : i < xs1.length
  · obtain ⟨x, hx⟩ : ∃ x, xs1[i]? = some x := ⟨_, List.getElem?_eq_getElem hlt⟩
    have hxl := hlm x (List.mem_of_getElem? hx)
    have hpl := preS_len x
    rw [List.length_nil, Nat.zero_add] at hxl
    refine cT (vLt_T (by omega)) ?_
    refine bk ?_
    obtain ⟨b2, o1, E1⟩ := H.elt 1 rfl (i) (by omega)
    refine rIxE E1 rfl rfl rfl ?_
    refine rLd (H.el 1 rfl E1 hx) 0 rfl rfl rfl ?_
    refine CallP.mk (Fc.imp (Go.Proofs.YtooimjefbdokaaaDoor.Asm.cutF H _ hM' _ ?_) ?_)
    · omega
    clear H
    rintro _ w3 ⟨t21, ⟨b3, ⟨rfl, H⟩⟩⟩
    refine CallP.mk (Fc.imp (Go.Proofs.YtooimjefbdokaaaDoor.Asm.splitC H _ hM' _ _ ?_) ?_)
    · omega
    clear H
    rintro va' w4 ⟨xs2, ⟨h1, H⟩⟩
    refine rLenS H 0 rfl rfl ?_
    have hql := cutC_len 32 (preS x) []
    have hqm := cutC_mem 32 (preS x) []
    rw [← h1] at hql hqm
    rw [List.length_nil, Nat.zero_add] at hqm
    replace H := H.sl0 (en := enW) (s := 1) 9 (fun _ => rfl)
    refine LoopP.rule (α := Nat × Value × List Bs) (0, .slice none 0 0, []) (fun x_ => [(36, .int .i64 x_.1), (9, x_.2.1)]) (fun x_ w_ => (x_.1 ≤ xs2.length) ∧ (x_.2.2 = full (xs2.take x_.1)) ∧ (x_.2.2.length ≤ x_.1) ∧ Sat gg w_ ((Sl 9 1 enW x_.2.1 x_.2.2 :: Sl 9 1 enW va' xs2 :: Sl 38 4 enV ve ys :: Sl 9 1 enW v' xs1 :: Mp b1 namesM n1 :: l))) (fun x_ => xs2.length - x_.1) ?_ ?_ ?_
    · repeat first | exact mt_nil | refine mt_cons rfl ?_ | refine mt_i rfl (by first | omega | (simp only; omega) | (simp; omega) | (simp; done)) ?_
    · try simp only
      refine ⟨?_, ?_⟩
      · omega
      refine ⟨?_, ?_⟩
      · rfl
      refine ⟨?_, ?_⟩
      · (constructor <;> omega)
      exact H
    clear H
    rintro ⟨j, vw, ws⟩ f_ w_ ⟨hj, hws, hwl, H⟩
    try simp only at hj hws hwl H ⊢
    by_cases hjl : j < xs2.length
    · obtain ⟨y, hy⟩ : ∃ y, xs2[j]? = some y := ⟨_, List.getElem?_eq_getElem hjl⟩
      by_cases hy0 : y = []
      · subst hy0
        refine cT (vLt_T (by omega)) ?_
        refine bk ?_
        obtain ⟨b4, o2, E2⟩ := H.elt 1 rfl (j) (by omega)
        refine rIxE E2 rfl rfl rfl ?_
        refine rLd (H.el 1 rfl E2 hy) 0 rfl rfl rfl ?_
        refine rStrNe ?_
        refine cF rfl ?_
        refine eqI64 (by omega) ?_
        refine Nxt.mk ((j + 1, vw, ws)) (mt_i rfl (by first | omega | (simp only; omega) | (simp; omega)) (mt_cons rfl (mt_nil))) ?_ ?_
        · refine ⟨?_, ?_⟩
          · assumption
          refine ⟨?_, ?_⟩
          · (rw [hws, full_skip hy])
          refine ⟨?_, ?_⟩
          · (constructor <;> omega)
          exact H
        omega
      · refine cT (vLt_T (by omega)) ?_
        refine bk ?_
        obtain ⟨b4, o2, E2⟩ := H.elt 1 rfl (j) (by omega)
        refine rIxE E2 rfl rfl rfl ?_
        refine rLd (H.el 1 rfl E2 hy) 0 rfl rfl rfl ?_
        refine rStrNe ?_
        refine cT (not_T (dec_F (by assumption))) ?_
        refine rBuildSliceS H rfl rfl rfl rfl ?_
        clear H
        intro p1 w5 H
        clear w_
        refine rApS (ys := [_]) 16 H 1 rfl (H.at 0 rfl) rfl (fun y _ => rfl) rfl rfl rfl (by omega) (by omega) ?_
        intro v1
        clear H
        intro w6 H
        clear w5
        refine eqI64 (by omega) ?_
        refine Nxt.mk ((j + 1, v1, ws ++ [y])) (mt_i rfl (by first | omega | (simp only; omega) | (simp; omega)) (mt_cons rfl (mt_nil))) ?_ ?_
        · refine ⟨?_, ?_⟩
          · assumption
          refine ⟨?_, ?_⟩
          · (rw [hws, full_take hy hy0])
          refine ⟨?_, ?_⟩
          · (simp only [List.length_append, List.length_set, List.length_cons, List.length_nil]; omega)
          refine H.fronts [5, 5, 5, 5, 5] ?_
          clear H
          intro H
          refine H.drop 5 ?_
          clear H
          intro H
          exact H
        omega
    · have hwf : ws = wordsOf x := by rw [hws, List.take_of_length_le (by omega), h1]; rfl
      have hwm : ∀ y ∈ ws, y.length ≤ 10000 := fun y hy => by
        rw [hws] at hy
        have := hqm y (List.mem_of_mem_take (full_mem hy))
        omega
      cases ws with
      | nil =>
        refine cF (vLt_F (by omega)) ?_
        refine rLenS H 0 rfl rfl ?_
        refine cT (vEq_T (by (simp only [List.length_append, List.length_set, List.length_cons, List.length_nil]; omega))) ?_
        refine eqI64 (by omega) ?_
        refine Nxt.mk ((gg, i + 1, ve, ys)) (mt_cons rfl (mt_i rfl (by first | omega | (simp only; omega) | (simp; omega)) (mt_nil))) ?_ ?_
        · refine ⟨?_, ?_⟩
          · assumption
          refine ⟨?_, ?_⟩
          · assumption
          refine ⟨?_, ?_⟩
          · (rw [wordsTo_none hx hwf.symm]; exact hyw)
          refine ⟨?_, ?_⟩
          · assumption
          refine ⟨?_, ?_⟩
          · assumption
          refine ⟨?_, ?_⟩
          · (constructor <;> omega)
          refine H.fronts [4, 4, 4] ?_
          clear H
          intro H
          refine H.drop 4 ?_
          clear H
          intro H
          refine H.drop 3 ?_
          clear H
          intro H
          exact H
        (simp only [List.length_append, List.length_set, List.length_cons, List.length_nil]; omega)
      | cons k r =>
        have hrl : r.length ≤ 10000 := by rw [List.length_cons] at hwl; omega
        refine cF (vLt_F (by omega)) ?_
        refine rLenS H 0 rfl rfl ?_
        refine cF (vEq_F (by (simp only [List.length_append, List.length_set, List.length_cons, List.length_nil]; omega))) ?_
        refine H.fronts [4, 1] ?_
        clear H
        intro H
        refine CallP.mk (Fc.imp (Go.Proofs.YtooimjefbdokaaaDoor.Asm.line _ _ _ (b1) (n1) hN' H ?_ ?_) ?_)
        · assumption
        · assumption
        clear H
        rintro _ w5 ⟨g'1, ⟨o2, ⟨a1, ⟨b21, ⟨tv1, ⟨tt1, ⟨ok1, ⟨rfl, ⟨h3, ⟨HE, ⟨h4, H⟩⟩⟩⟩⟩⟩⟩⟩⟩⟩⟩
        replace hM' := FAt.ext hM' HE
        replace hN' := hN'.ext HE
        replace hys := fun y hy => (hys y hy).ext HE
        replace E := E.trans HE
        clear HE
        refine rAllocS H rfl ?_
        clear H
        intro p1 w6 H
        clear w5
        refine rStAS H 0 rfl rfl rfl (by simp only [List.all_cons, List.all_nil, H.one 2 rfl, H.one 3 rfl, H.one 4 rfl, FSl.one h4]; rfl) ?_
        clear H
        intro w5 H
        clear w6
        refine cI (fun c2 => ?_) (fun c2 => ?_)
        · replace c2 := not_t (c2)
          refine eqI64 (by omega) ?_
          refine Done.mk ?_
          exact ⟨_, _, [], _, 11, rfl, .inr ⟨hsl, .inl ⟨rfl, by rw [← h2]; omega, rfl, read_bad h2 hx hwf.symm (by assumption) (by assumption)⟩⟩, E, FSl.nil0 _ _ _ _, H.tl.tl.tl.tl.tl⟩
        replace c2 := not_f (c2)
        refine rLdA (H.at 0 rfl) 0 rfl rfl rfl ?_
        refine rBuildSliceS H rfl rfl rfl rfl ?_
        clear H
        intro p2 w6 H
        clear w5
        refine rApS (ys := [⟨o2, a1, b21, tv1, tt1⟩]) 48 H 4 rfl (H.at 0 rfl) rfl (fun y hy => by rw [List.mem_singleton.1 hy]; simp only [Go.Proofs.YtooimjefbdokaaaDoor.Ins.enV, List.all_cons, List.all_nil, H.one 3 rfl, H.one 4 rfl, H.one 5 rfl, FSl.one h4]; rfl) rfl rfl rfl (by omega) (by omega) ?_
        intro v1
        clear H
        intro w5 H
        clear w6
        refine eqI64 (by omega) ?_
        refine Nxt.mk ((g'1, i + 1, v1, ys ++ [{ op := o2, a := a1, b := b21, tv := tv1, «to» := tt1 }])) (mt_cons rfl (mt_i rfl (by first | omega | (simp only; omega) | (simp; omega)) (mt_nil))) ?_ ?_
        · refine ⟨?_, ?_⟩
          · assumption
          refine ⟨?_, ?_⟩
          · assumption
          refine ⟨?_, ?_⟩
          · exact snoc_w (y := ⟨o2, a1, b21, tv1, tt1⟩) h3 (by assumption) hyw hx hwf.symm
          refine ⟨?_, ?_⟩
          · exact snoc_v (y := ⟨o2, a1, b21, tv1, tt1⟩) h3 (by assumption) hys h4
          refine ⟨?_, ?_⟩
          · exact snoc_g (y := ⟨o2, a1, b21, tv1, tt1⟩) h3 (by assumption) hyg
          refine ⟨?_, ?_⟩
          · (simp only [List.length_append, List.length_set, List.length_cons, List.length_nil]; omega)
          refine H.fronts [2, 5, 5] ?_
          clear H
          intro H
          refine H.drop 5 ?_
          clear H
          intro H
          refine H.drop 4 ?_
          clear H
          intro H
          refine H.drop 3 ?_
          clear H
          intro H
          exact H
        (simp only [List.length_append, List.length_set, List.length_cons, List.length_nil]; omega)
  · refine H.frz1 0 (okV gg) rfl hys ?_
    intro g1 HE F
    have F2 := FSl.okm F (fun y hy h => h.ext HE)
    clear H F
    intro H
    replace hM' := FAt.ext hM' HE
    replace hN' := hN'.ext HE
    replace hys := fun y hy => (hys y hy).ext HE
    replace E := E.trans HE
    clear HE
    refine cF (vLt_F (by omega)) ?_
    have hR := fun e he => read_end (e := e) h2 (Nat.le_of_not_lt hlt) hsl hyw hyg he
    refine CallP.mk (Fc.imp (Go.Proofs.YtooimjefbdokaaaDoor.Nest.check H _ _ F2) ?_)
    clear H
    rintro _ w3 ⟨⟨e1, ⟨rfl, h1⟩⟩, H⟩
    refine cI (fun c2 => ?_) (fun c2 => ?_)
    · replace c2 := vNe_t (c2)
      refine Done.mk ?_
      exact ⟨g1, _, [], 0, _, rfl, (hR _ (by assumption)).2 (by assumption), E, FSl.nil0 _ _ _ _, H.tl.tl⟩
    replace c2 := vNe_f (c2)
    refine Done.mk ?_
    exact ⟨g1, ve, ys, 0, 0, rfl, (hR _ (by assumption)).1 (by assumption), E, F2, H.tl.tl⟩
theorem sameAll (va vb : Value) (xs ys : List InsV) (H : Sat g w l) (hx : FSl g enV (okV g) 4 va xs) (hy : FSl g enV (okV g) 4 vb ys) : Fc Tryd.prog 19 #[va, vb, .func (.func 20) #[] #[]] w (fun r w' => (∃ b, r = .bool b ∧ (b = true ↔ xs.map InsV.d = ys.map InsV.d)) ∧ Sat g w' l) := by
  refine Fc.of Tryd.func19 rfl (by kernel_rfl) ?_
  have m1 : (xs.map InsV.d).length = xs.length := List.length_map ..
  have m2 : (ys.map InsV.d).length = ys.length := List.length_map ..
  have hlx := hx.len
  refine rLenF hx rfl ?_
  refine rLenF hy rfl ?_
  refine cI (fun c1 => ?_) (fun c1 => ?_)
  · replace c1 := vNe_t (c1)
    refine Done.mk ?_
    exact ⟨⟨false, rfl, ⟨nofun, fun h => absurd (congrArg List.length h) (by omega)⟩⟩, H⟩
  replace c1 := vNe_f (c1)
  refine rLenF hx rfl ?_
  refine LoopP.rule (α := Nat) (0) (fun x_ => [(15, .int .i64 x_)]) (fun x_ w_ => (x_ ≤ xs.length) ∧ (∀ q, q < x_ → (xs.map InsV.d)[q]? = (ys.map InsV.d)[q]?) ∧ Sat g w_ (l)) (fun x_ => xs.length - x_) ?_ ?_ ?_
  · repeat first | exact mt_nil | refine mt_cons rfl ?_ | refine mt_i rfl (by first | omega | (simp only; omega) | (simp; omega) | (simp; done)) ?_
  · try simp only
    refine ⟨?_, ?_⟩
    · omega
    refine ⟨?_, ?_⟩
    · (intro q hq; exact absurd hq (Nat.not_lt_zero q))
    exact H
  clear H
  rintro i f_ w_ ⟨hi, he, H⟩
  try simp only at hi he H ⊢
  refine cI (fun c2 => ?_) (fun c2 => ?_)
  · replace c2 := vLt_t (c2)
    refine bk ?_
    refine drawzS H [] [(0, .pure), (1, .pure), (2, .pure), (3, .pure), (4, .held), (5, .pure), (6, .pure), (7, .pure), (8, .held), (9, .free), (10, .pure)] mixed (by kernel_rfl) (by kernel_rfl) ?_
    clear H
    intro w1 H
    clear w_
    obtain ⟨x1, hx1⟩ : ∃ x, (xs)[(i)]? = some x := ⟨_, List.getElem?_eq_getElem (by omega)⟩
    obtain ⟨b1, o1, E1, F1, hok1⟩ := FSl.elt hx hx1
    have hok1_op := hok1.op
    have hok1_a := hok1.a
    have hok1_b := hok1.b
    have hok1_to := hok1.to
    refine tk (fun wx HS => rIxE E1 rfl rfl rfl ⟨rfl, rfl⟩) ?_
    refine tk (fun wx HS => rLdA (HS.fat F1) 0 rfl rfl rfl ⟨rfl, rfl⟩) ?_
    obtain ⟨x2, hx2⟩ : ∃ x, (ys)[(i)]? = some x := ⟨_, List.getElem?_eq_getElem (by omega)⟩
    obtain ⟨b2, o2, E2, F2, hok2⟩ := FSl.elt hy hx2
    have hok2_op := hok2.op
    have hok2_a := hok2.a
    have hok2_b := hok2.b
    have hok2_to := hok2.to
    refine tk (fun wx HS => rIxE E2 rfl rfl rfl ⟨rfl, rfl⟩) ?_
    refine tk (fun wx HS => rLdA (HS.fat F2) 0 rfl rfl rfl ⟨rfl, rfl⟩) ?_
    refine CallP.mk (Fc.imp (Go.Proofs.YtooimjefbdokaaaDoor.Ins.sameIns _ _ _ _ _ _ _ _ _ _ _ (Rd.tt (H.rd hok1_to)) (Rd.tt (H.rd hok2_to))) ?_)
    rintro _ w2 ⟨q1, ⟨rfl, ⟨h1, H'⟩⟩⟩
    refine H.mergeK H' ?_
    clear H H'
    intro H
    refine cI (fun c3 => ?_) (fun c3 => ?_)
    · replace c3 := iff_f h1 (not_t (c3))
      refine Done.mk ?_
      exact ⟨⟨false, rfl, nofun, fun h => absurd (Option.some.inj ((Nest.map_get hx1).symm.trans ((congrArg (·[i]?) h).trans (Nest.map_get hx2)))) (by assumption)⟩, H⟩
    replace c3 := h1.1 (not_f (c3))
    refine eqI64 (by omega) ?_
    refine Nxt.mk (i + 1) (mt_i rfl (by first | omega | (simp only; omega) | (simp; omega)) (mt_nil)) ?_ ?_
    · refine ⟨?_, ?_⟩
      · omega
      refine ⟨?_, ?_⟩
      · exact Ref.eq_step he (by rw [Nest.map_get hx1, Nest.map_get hx2]; exact congrArg some (by assumption))
      exact H
    omega
  replace c2 := vLt_f (c2)
  refine Done.mk ?_
  exact ⟨⟨true, rfl, fun _ => Ref.eq_all (by omega) (by omega) he, fun _ => rfl⟩, H⟩
theorem sameBody (va vb : Value) (xs ys : List InsV) (H : Sat g w l) (hx : FSl g enV (okV g) 4 va xs) (hy : FSl g enV (okV g) 4 vb ys) : Fc Tryd.prog 7 #[va, vb] w (fun r w' => (∃ b, r = .bool b ∧ (b = true ↔ xs.map InsV.d = ys.map InsV.d)) ∧ Sat g w' l) := by
  refine Fc.of Tryd.func7 rfl (by kernel_rfl) ?_
  refine CallP.mk (Fc.imp (Go.Proofs.YtooimjefbdokaaaDoor.Asm.sameAll _ _ _ _ H hx hy) ?_)
  clear H
  rintro _ w1 ⟨⟨b1, ⟨rfl, h1⟩⟩, H⟩
  refine Done.mk ?_
  refine ⟨?_, ?_⟩
  · refine ⟨b1, ?_⟩
    refine ⟨?_, ?_⟩
    · rfl
    assumption
  exact H
end
end Go.Proofs.YtooimjefbdokaaaDoor.Asm
/- Reading what was written: the plain side. -/
set_option maxRecDepth 100000
set_option maxHeartbeats 4000000
set_option linter.unusedVariables false
set_option linter.unusedSimpArgs false
namespace Go.Proofs.YtooimjefbdokaaaDoor.Asm
open Go Go.Proofs.YtooimjefbdokaaaDoor.Eng Ins Nest Leb
theorem next_le (st : NS) (o k : Int) : (nextS st o k).2.2 ≤ 7 := by
  unfold nextS
  repeat' split
  all_goals simp
theorem chk_le (x : InsD) : chk x ≤ 6 := by
  unfold chk
  repeat' split
  all_goals decide
theorem goB_le : ∀ (l : List InsD) (k : Nat) (st : NS), goB l k st ≤ 7
  | [], k, st => by
    unfold goB; split <;> decide
  | x :: r, k, st => by
    unfold goB
    repeat' split
    all_goals first | exact Int.le_trans (chk_le x) (by decide) | exact next_le _ _ _ | exact goB_le r _ _
theorem chkB_le (l : List InsD) : chkB l ≤ 7 := by
  unfold chkB; split
  · decide
  · exact goB_le _ _ _
theorem read_same {s : Bs} {ds : List InsD} {k e : Int} (hR : ReadR s ds k e) (hs : s.length ≤ 6000) {zs : List InsD} (hz : ∀ z ∈ zs, Good z) (hw : zs.map wordsI = allW s) (hc : chkB zs = 0) : e = 0 ∧ k = 0 ∧ ds = zs := by
  rcases hR with ⟨h, _⟩ | ⟨_, ⟨_, _, _, h⟩ | ⟨ys, h1, h2, h3, h4, h5⟩⟩
  · omega
  · exact absurd hw (h zs hz)
  · have := map_words_inj h1 hz (h2.trans hw.symm)
    subst this
    exact ⟨by rw [h4, hc], h3, by rw [h5, if_pos hc]⟩
theorem read_ok0 {s : Bs} {ds : List InsD} {k e : Int} (hR : ReadR s ds k e) (he : e = 0) : s.length ≤ 6000 ∧ k = 0 ∧ (∀ z ∈ ds, Good z) ∧ ds.map wordsI = allW s ∧ chkB ds = 0 := by
  rcases hR with ⟨_, _, _, h⟩ | ⟨hs, ⟨_, _, h, _⟩ | ⟨ys, h1, h2, h3, h4, h5⟩⟩
  · omega
  · omega
  · have hc : chkB ys = 0 := by omega
    rw [if_pos hc] at h5
    subst h5
    exact ⟨hs, h3, h1, h2, hc⟩
theorem read_err {s : Bs} {ds : List InsD} {k e : Int} (hR : ReadR s ds k e) (he : e ≠ 0) : ds = [] ∧ ((0 < k ∧ e = 11) ∨ (k = 0 ∧ e ≠ 11)) := by
  rcases hR with ⟨_, h1, h2, h⟩ | ⟨hs, ⟨h1, h2, h, _⟩ | ⟨ys, h1, h2, h3, h4, h5⟩⟩
  · exact ⟨h1, .inr ⟨h2, by omega⟩⟩
  · exact ⟨h1, .inl ⟨h2.1, h⟩⟩
  · have := chkB_le ys
    exact ⟨by rw [h5, if_neg (by omega)], .inr ⟨h3, by omega⟩⟩
def noSuch : Bs := [110, 111, 32, 115, 117, 99, 104]
theorem noSuch_W : allW noSuch = [[[110, 111], [115, 117, 99, 104]]] := by decide +kernel
theorem noSuch_1 : (cutC 10 [] noSuch).length = 1 := by decide +kernel
def keyHas (k : Bs) : List (Bs × Int) → Bool
  | [] => false
  | p :: r => decide (p.1 = k) || keyHas k r
theorem keyHas_no {k : Bs} : ∀ {l : List (Bs × Int)}, keyHas k l = false → mfOf l k = none := by
  intro l h
  cases hm : mfOf l k with
  | none => rfl
  | some v =>
    have := mfOf_some _ _ _ hm
    have key : ∀ l : List (Bs × Int), (k, v) ∈ l → keyHas k l = true := by
      intro l
      induction l with
      | nil => intro h; cases h
      | cons p r ih =>
        intro h
        rw [keyHas, Bool.or_eq_true]
        rcases List.mem_cons.1 h with h | h
        · left; rw [← h]; simp
        · right; exact ih h
    rw [key _ this] at h; cases h
theorem noSuch_no : namesM [110, 111] = none := keyHas_no (by decide +kernel)
theorem read_no {ds : List InsD} {k e : Int} (hR : ReadR noSuch ds k e) : k = 1 ∧ e = 11 := by
  rcases hR with ⟨h, _⟩ | ⟨hs, ⟨h1, h2, h, _⟩ | ⟨ys, h1, h2, h3, h4, h5⟩⟩
  · exact absurd h (by decide)
  · rw [noSuch_1] at h2; exact ⟨by omega, h⟩
  · rw [noSuch_W] at h2
    cases ys with
    | nil => cases h2
    | cons z r =>
      rw [List.map_cons] at h2
      injection h2 with h2 _
      have hz := h1 z (List.mem_cons_self ..)
      unfold wordsI at h2
      injection h2 with h2 _
      exact absurd h2 (namesM_n noSuch_no hz.1.1 ((bes_at hz.1.1).1.1 (chk_facts hz.2).1))
theorem good_of {g : Glob} {xs : List InsV} (h : ∀ x ∈ xs, okV g x) (hc : chkB (xs.map InsV.d) = 0) : ∀ z ∈ xs.map InsV.d, Good z := by
  intro z hz
  obtain ⟨i, hi, rfl⟩ := List.mem_iff_getElem.1 hz
  rw [List.length_map] at hi
  have hx : xs[i]? = some xs[i] := List.getElem?_eq_getElem hi
  have hk := chk_at hc hx
  have ho := h xs[i] (List.getElem_mem hi)
  rw [List.getElem_map]
  exact ⟨⟨ho.op, ho.a, ho.b, ho.to.all⟩, hk⟩
/-- What was written is read as it was. -/
theorem read_text {ds ds' : List InsD} {k e : Int} (hg : ∀ z ∈ ds, Good z) (hc : chkB ds = 0) (hl : (textI ds).length ≤ 6000) (hR : ReadR (textI ds) ds' k e) : e = 0 ∧ k = 0 ∧ ds' = ds :=
  read_same hR hl hg (allW_text ds hg).symm hc
theorem wr_cases {ds : List InsD} {t : Bs} {e : Int} (h : WrR ds t e) : (e ≠ 0 ∧ t = [] ∧ (chkB ds = 0 → e = 2)) ∨ (e = 0 ∧ chkB ds = 0 ∧ t = textI ds ∧ (textI ds).length ≤ 6000) := by
  rcases h with ⟨h1, h2, h3⟩ | ⟨h1, h2, h3, h4⟩ | ⟨h1, h2, h3, h4⟩
  · exact .inl ⟨by omega, h3, fun h => absurd h h1⟩
  · exact .inl ⟨by omega, h4, fun _ => h3⟩
  · exact .inr ⟨h3, h1, h4, h2⟩
end Go.Proofs.YtooimjefbdokaaaDoor.Asm
/- The law AsmBack. -/
set_option maxRecDepth 100000
set_option maxHeartbeats 4000000
set_option linter.unusedVariables false
set_option linter.unusedSimpArgs false
namespace Go.Proofs.YtooimjefbdokaaaDoor.Asm
open Go Go.Proofs.YtooimjefbdokaaaDoor.Eng Go.RowKit
open Ins Nest
theorem wr_emp {ds : List InsD} {t : Bs} {e : Int} (h : WrR ds t e) (c : e ≠ 0) : decide (t = []) = true := by
  rcases wr_cases h with ⟨_, h, _⟩ | ⟨h, _⟩
  · rw [h]; rfl
  · exact absurd h c
theorem wr_ok {ds : List InsD} {t : Bs} {e : Int} (h : WrR ds t e) (c : e = 0) : chkB ds = 0 ∧ t = textI ds ∧ (textI ds).length ≤ 6000 := by
  rcases wr_cases h with ⟨h, _⟩ | ⟨_, h⟩
  · exact absurd c h
  · exact h
theorem asmBack (w : World) (v : Value) (xs : List InsV) (hx : FSl (froz w) enV (okV (froz w)) 4 v xs) (m : Int) (hM : FAt (froz w) 0 0 [.int .i64 m]) (hN : NumF (froz w)) : Fc Tryd.prog 3 #[v] w (fun r w' => r = .bool true ∧ Below w.heap.size w w') := by
  refine Fc.of Tryd.func3 rfl (by kernel_rfl) ?_
  have H := Sat.start w
  refine CallP.mk (Fc.imp (Go.Proofs.YtooimjefbdokaaaDoor.Asm.write H _ _ _ hM ?_ hx) ?_)
  · assumption
  clear H
  rintro _ w1 ⟨t1, ⟨e1, ⟨rfl, ⟨h1, ⟨h2, H⟩⟩⟩⟩⟩
  refine cI (fun c1 => ?_) (fun c1 => ?_)
  · replace c1 := vNe_t (c1)
    refine rStrEq ?_
    refine Done.mk ?_
    refine ⟨?_, ?_⟩
    · exact congrArg Value.bool (wr_emp h1 c1)
    exact H.finish
  replace c1 := vNe_f (c1)
  obtain ⟨hc, ht, hl⟩ := wr_ok h1 c1
  have hg := good_of hx.all hc
  refine CallP.mk (Fc.imp (Go.Proofs.YtooimjefbdokaaaDoor.Asm.read _ _ H hM ?_ ?_) ?_)
  · assumption
  · omega
  clear H
  rintro _ w2 ⟨g'1, ⟨v1, ⟨xs1, ⟨k1, ⟨e2, ⟨rfl, ⟨h3, ⟨HE, ⟨h4, H⟩⟩⟩⟩⟩⟩⟩⟩⟩
  replace hN := hN.ext HE
  replace hM := FAt.ext hM HE
  replace hx := FSl.extN (ok := Go.Proofs.YtooimjefbdokaaaDoor.Ins.okV) (fun _ _ _ h E => Go.Proofs.YtooimjefbdokaaaDoor.Ins.okV.ext h E) hx HE
  have E := HE
  clear HE
  rw [ht] at h3
  obtain ⟨hk0, hk1, hk2⟩ := read_text hg hc hl h3
  refine br_t (vEq_T (by assumption)) ?_
  refine br_t (vEq_T (by assumption)) ?_
  refine CallP.mk (Fc.imp (Go.Proofs.YtooimjefbdokaaaDoor.Asm.sameBody _ _ _ _ H hx h4) ?_)
  clear H
  rintro _ w3 ⟨⟨b1, ⟨rfl, h5⟩⟩, H⟩
  refine Done.mk ?_
  refine ⟨?_, ?_⟩
  · exact congrArg Value.bool (h5.2 hk2.symm)
  exact E.fin H
end Go.Proofs.YtooimjefbdokaaaDoor.Asm
