/- Texts of this claim, one behind the other. -/
import Derived.Shelf.Unicode.ValidAny
import Derived.Ground.NamesProg
import Derived.Test.YtcpniokopahakaaDoorProg
import Derived.Test.YtcpniokopahakaaDoorM3
import Derived.Test.YtcpniokopahakaaDoorM2
import Derived.Shelf.Small.Utf8
import Derived.Shelf.Small.Bits
import Derived.Shelf.Small.Strs
import Derived.Shelf.Utf8.RuneCount
import Derived.Shelf.Strconv.Itoa0
import Derived.Shelf.Strings.Search1
import Derived.Shelf.Strings.Search2
import Derived.Shelf.Strings.Search3
import Derived.Shelf.Strings.Cut
import Derived.Shelf.Strings.Count
import Derived.Shelf.LaysM
import Derived.Shelf.Strings.Shaped
import Derived.Shelf.Strings.Split
import Derived.Shelf.Strings.SplitShaped
import Derived.Shelf.Unicode.Decode
import Derived.Shelf.Strings.Runes
import Derived.Shelf.Strings.RuneCount
import Derived.Shelf.Strings.IndexAny
import Derived.Shelf.Strings.AsciiSet
import Derived.Shelf.Strings.IndexAnyAll
import Derived.Shelf.Strings.Explode
import Derived.Shelf.Unicode.DecodeSlow
import Derived.Shelf.Unicode.DecodeAny
import Derived.Ground.SlgnProg
import Derived.Shelf.SlicesE.Clone
import Derived.Test.YtcpniokopahakaaDoorM4
/-
  DERIVED: THE SHELF's CONTRACTS AT THIS DUMP, IN PLAIN WORDS (tools/lay-plain.mjs out of 'TrydShelf.lean', which tools/lay-shelf.mjs wrote): THE SAME DECLARATIONS UNDER THE SAME NAMES: 'import', 'namespace', 'open', 'def', 'theorem' AND NOTHING ELSE: no command of the shelf's: FOR A HAND-IN. Each laying: the table of numbers ('.._ren') and one theorem, a field a fact of the dump's own or the kernel's comparison; each contract: ONE APPLICATION.
-/
namespace Go.Proofs
open Go.Shelf
def Tryd.lays196_ren : Go.Shelf.Ren := ⟨fun | 196 => 158 | 259 => 186 | n => n, fun | 9 => 9 | 4 => 4 | 3 => 3 | 5 => 5 | 12 => 12 | 119 => 249 | 0 => 0 | 46 => 228 | 139 => 252 | 138 => 251 | 53 => 103 | n => n, fun | 3 => 0 | 4 => 1 | n => n⟩
theorem Tryd.lays196 : Go.Proofs.Lays.n196 Tryd.prog Tryd.lays196_ren := {
  mixed := by kernel_rfl
  f196 := Tryd.func158.trans (congrArg some (by kernel_rfl))
  f259 := Tryd.func186.trans (congrArg some (by kernel_rfl))
  t0 := Tryd.underlying0
  a0 := Tryd.isAgg0
  z0 := Tryd.sizeOf0
  v0 := Tryd.zeroValue0
  t3 := Tryd.underlying3
  a3 := Tryd.isAgg3
  z3 := Tryd.sizeOf3
  v3 := Tryd.zeroValue3
  t4 := Tryd.underlying4
  a4 := Tryd.isAgg4
  z4 := Tryd.sizeOf4
  v4 := Tryd.zeroValue4
  t5 := Tryd.underlying5
  a5 := Tryd.isAgg5
  z5 := Tryd.sizeOf5
  v5 := Tryd.zeroValue5
  t9 := Tryd.underlying9
  a9 := Tryd.isAgg9
  z9 := Tryd.sizeOf9
  v9 := Tryd.zeroValue9
  t12 := Tryd.underlying12
  a12 := Tryd.isAgg12
  z12 := Tryd.sizeOf12
  v12 := Tryd.zeroValue12
  t46 := Tryd.underlying228
  a46 := Tryd.isAgg228
  z46 := Tryd.sizeOf228
  v46 := Tryd.zeroValue228
  t53 := Tryd.underlying103
  a53 := Tryd.isAgg103
  z53 := Tryd.sizeOf103
  v53 := Tryd.zeroValue103
  t119 := Tryd.underlying249
  a119 := Tryd.isAgg249
  z119 := Tryd.sizeOf249
  t138 := Tryd.underlying251
  a138 := Tryd.isAgg251
  z138 := Tryd.sizeOf251
  v138 := Tryd.zeroValue251
  t139 := Tryd.underlying252
  a139 := Tryd.isAgg252
  z139 := Tryd.sizeOf252
  v139 := Tryd.zeroValue252
  g3 := by kernel_rfl
  g4 := by kernel_rfl }
open Go.RowKit Go.Lib in
/-- x -/
theorem Tryd.utf8_ValidString (s : ByteArray) (w : World) (hs : s.size ≤ 9223372036854775807) (hT : Lib.Utf8Tabs (Tryd.lays196_ren.g 3) (Tryd.lays196_ren.g 4) w) :
    Calls Tryd.prog (Tryd.lays196_ren.f 196) #[.string s] w fun e w' => e = .returned (.bool (Lib.validD s.data.toList)) ∧ Below w.heap.size w w' := Any.utf8_ValidString Tryd.lays196 s w hs hT
end Go.Proofs
/- Package leb: names that are written; utf8.ValidString. -/
set_option maxRecDepth 100000
set_option maxHeartbeats 4000000
set_option linter.unusedVariables false
set_option linter.unusedSimpArgs false
namespace Go.Proofs.YtcpniokopahakaaDoor.Leb
open Go Go.Proofs.YtcpniokopahakaaDoor.Eng Go.RowKit
section
variable {g : Glob} {w : World} {l : List As}
/-- The tables of unicode/utf8 lie frozen. -/
def U8F (g : Glob) : Prop := ∀ (w : World) (l : List As), Sat g w l → Lib.Utf8Tabs (Tryd.lays196_ren.g 3) (Tryd.lays196_ren.g 4) w
theorem bs_list (s : List UInt8) : (bs s).data.toList = s := by unfold bs; simp
theorem validString (H : Sat g w l) (hT : U8F g) (s : List UInt8) (hs : s.length ≤ 9223372036854775807) : Fc Tryd.prog 158 #[.string (bs s)] w (fun v w' => ∃ b, v = .bool b ∧ b = Lib.validD s ∧ Sat g w' l) := by
  refine Fc.ofCalls Tryd.func158 rfl (by kernel_rfl) ?_
  refine (Tryd.utf8_ValidString (bs s) w (by rw [bs_size]; exact hs) (hT w l H)).mono ?_
  rintro e w' ⟨rfl, hb⟩
  exact ⟨_, rfl, _, rfl, by rw [bs_list], H.below hb⟩
def nameE (s : List UInt8) : Int := if 16 < s.length then 2 else if Lib.validD s = true then 0 else 4
theorem name (H : Sat g w l) (hT : U8F g) (s : List UInt8) (hs : s.length ≤ 9223372036854775807) : Fc Tryd.prog 118 #[.string (bs s)] w (fun v w' => ∃ t e, v = .tuple #[.string (bs t), .int .i64 e] ∧ e = nameE s ∧ t = (if nameE s = 0 then uleb s.length ++ s else []) ∧ t.length ≤ 30 ∧ Sat g w' l) := by
  refine Fc.of Tryd.func118 rfl (by kernel_rfl) ?_
  by_cases h16 : 16 < s.length
  · have hE : nameE s = 2 := if_pos h16
    rw [hE, if_neg (by decide)]
    refine bk ?_
    refine rLenStr rfl ?_
    refine cT (vLt_T (by omega)) ?_
    refine Done.mk ?_
    refine ⟨[], 2, ?_⟩
    refine ⟨?_, ?_⟩
    · rfl
    refine ⟨?_, ?_⟩
    · omega
    refine ⟨?_, ?_⟩
    · rfl
    refine ⟨?_, ?_⟩
    · (simp only [List.length_append, List.length_set, List.length_cons, List.length_nil]; omega)
    exact H
  · cases hv : Lib.validD s
    · have hE : nameE s = 4 := by unfold nameE; rw [if_neg h16, if_neg (by rw [hv]; decide)]
      rw [hE, if_neg (by decide)]
      refine bk ?_
      refine rLenStr rfl ?_
      refine cF (vLt_F (by omega)) ?_
      refine CallP.mk (Fc.imp (Go.Proofs.YtcpniokopahakaaDoor.Leb.validString H ?_ _ ?_) ?_)
      · assumption
      · assumption
      clear H
      rintro _ w1 ⟨b1, ⟨rfl, ⟨h1, H⟩⟩⟩
      rw [hv] at h1
      subst h1
      refine cT rfl ?_
      refine Done.mk ?_
      refine ⟨[], 4, ?_⟩
      refine ⟨?_, ?_⟩
      · rfl
      refine ⟨?_, ?_⟩
      · omega
      refine ⟨?_, ?_⟩
      · rfl
      refine ⟨?_, ?_⟩
      · (simp only [List.length_append, List.length_set, List.length_cons, List.length_nil]; omega)
      exact H
    · have hE : nameE s = 0 := by unfold nameE; rw [if_neg h16, if_pos hv]
      rw [hE, if_pos rfl]
      refine bk ?_
      refine rLenStr rfl ?_
      refine cF (vLt_F (by omega)) ?_
      refine CallP.mk (Fc.imp (Go.Proofs.YtcpniokopahakaaDoor.Leb.validString H ?_ _ ?_) ?_)
      · assumption
      · assumption
      clear H
      rintro _ w1 ⟨b1, ⟨rfl, ⟨h1, H⟩⟩⟩
      rw [hv] at h1
      subst h1
      refine cF rfl ?_
      refine rLenStr rfl ?_
      refine rConvU64 (by omega) rfl rfl ?_
      refine CallP.mk (Fc.imp (Go.Proofs.YtcpniokopahakaaDoor.Leb.U _ (s.length) ?_ ?_ _) ?_)
      · omega
      · omega
      rintro _ w2 ⟨l1, ⟨rfl, ⟨h1, ⟨h2, H'⟩⟩⟩⟩
      refine H.mergeK H' ?_
      clear H H'
      intro H
      refine rCat (by omega) ?_
      refine Done.mk ?_
      refine ⟨l1 ++ s, 0, ?_⟩
      refine ⟨?_, ?_⟩
      · rfl
      refine ⟨?_, ?_⟩
      · omega
      refine ⟨?_, ?_⟩
      · (simp; omega)
      refine ⟨?_, ?_⟩
      · (simp only [List.length_append, List.length_set, List.length_cons, List.length_nil]; omega)
      exact H
end
end Go.Proofs.YtcpniokopahakaaDoor.Leb
/- Modules: as they lie, and what is asked of them. -/
set_option maxRecDepth 100000
set_option maxHeartbeats 4000000
set_option linter.unusedVariables false
set_option linter.unusedSimpArgs false
namespace Go.Proofs.YtcpniokopahakaaDoor.Bin
open Go Go.Proofs.YtcpniokopahakaaDoor.Eng Go.RowKit
open Ins Nest Leb
/-- The first error. -/
def fst (a b : Int) : Int := if a = 0 then b else a
theorem fst_0 (b : Int) : fst 0 b = b := if_pos rfl
theorem fst_ne {a : Int} (b : Int) (h : a ≠ 0) : fst a b = a := if_neg h
theorem fst_z (a : Int) : fst a 0 = a := by unfold fst; split <;> simp [*]
theorem fst_assoc (a b c : Int) : fst (fst a b) c = fst a (fst b c) := by
  unfold fst
  by_cases h : a = 0
  · rw [if_pos h, if_pos h]
  · rw [if_neg h, if_neg h, if_neg h]
theorem fst_eq0 {a b : Int} : fst a b = 0 ↔ a = 0 ∧ b = 0 := by
  unfold fst
  by_cases h : a = 0
  · rw [if_pos h]; simp [h]
  · rw [if_neg h]; simp [h]
/-- The first error so far, and one more. -/
def FE (b e c : Int) : Prop := c = fst b e
theorem FE.eq {b e c : Int} (h : FE b e c) : c = fst b e := h
theorem FE.two {b c d e f : Int} (h : FE b e c) (h' : FE c f d) : FE b (fst e f) d := by
  unfold FE at *; rw [h', h, fst_assoc]
def kindE (k : Int) : Int := if k = 127 ∨ k = 126 then 0 else 1
def indexE (n : Int) : Int := if 0 ≤ n ∧ n ≤ 4294967295 then 0 else 1
def placeE (n : Int) : Int := if -2147483648 ≤ n ∧ n ≤ 2147483647 then 0 else 1
def allE {α : Type} (f : α → Int) : List α → Int
  | [] => 0
  | x :: r => fst (f x) (allE f r)
def manyE (n : Nat) (m : Int) : Int := if (n : Int) ≤ m then 0 else 2
def eachE {α : Type} (m : Int) (f : α → Int) (l : List α) : Int := fst (manyE l.length m) (allE f l)
theorem allE_map {α β : Type} (f : β → Int) (d : α → β) (l : List α) : allE f (l.map d) = allE (fun x => f (d x)) l := by
  induction l with
  | nil => rfl
  | cons x r ih => rw [List.map_cons, allE, allE, ih]
theorem eachE_map {α β : Type} (m : Int) (f : β → Int) (d : α → β) (l : List α) : eachE m f (l.map d) = eachE m (fun x => f (d x)) l := by
  unfold eachE; rw [allE_map, List.length_map]
theorem allE_0 {α : Type} {f : α → Int} {l : List α} : allE f l = 0 ↔ ∀ x ∈ l, f x = 0 := by
  induction l with
  | nil => simp [allE]
  | cons x r ih => rw [allE, fst_eq0, ih]; simp
theorem eachE_0 {α : Type} {m : Int} {f : α → Int} {l : List α} : eachE m f l = 0 ↔ (l.length : Int) ≤ m ∧ ∀ x ∈ l, f x = 0 := by
  unfold eachE manyE
  rw [fst_eq0, allE_0]
  by_cases h : (l.length : Int) ≤ m
  · rw [if_pos h]; simp [h]
  · rw [if_neg h]; simp [h]
structure SigD where
  inn : List Int
  out : List Int
structure FunD where
  ty : Int
  loc : List Int
  body : List InsD
structure ModD where
  types : List SigD
  imps : List (List UInt8 × Int)
  funcs : List FunD
  table : Int
  pages : Int
  most : Int
  globals : List (Int × Bool × Int)
  exps : List (List UInt8 × Int)
  start : Int
  elems : List (Int × List Int)
  data : List (Int × List UInt8)
def sigE (s : SigD) : Int := fst (eachE 4 kindE s.inn) (eachE 1 kindE s.out)
def impE (x : List UInt8 × Int) : Int := fst (nameE x.1) (indexE x.2)
def funE (f : FunD) : Int := fst (indexE f.ty) (fst (eachE 16 kindE f.loc) (chkB f.body))
def startE (k n : Int) : Int := if k ≠ 127 ∨ (-2147483648 ≤ n ∧ n ≤ 2147483647) then 0 else 1
def gloE (x : Int × Bool × Int) : Int := fst (kindE x.1) (startE x.1 x.2.2)
def elE (x : Int × List Int) : Int := fst (placeE x.1) (eachE 16 indexE x.2)
def datE (x : Int × List UInt8) : Int := fst (placeE x.1) (manyE x.2.length 64)
def geE (a b : Int) : Int := if a ≤ b then 0 else 1
def pagE (p m : Int) : Int := if 0 ≤ p ∧ p ≤ m then 0 else 1
def leE (a b : Int) : Int := if a ≤ b then 0 else 2
def chkM (m : ModD) : Int :=
  fst (eachE 16 sigE m.types) (fst (eachE 16 impE m.imps) (fst (eachE 16 funE m.funcs) (fst (geE 0 m.table) (fst (leE m.table 16) (fst (pagE m.pages m.most) (fst (leE m.most 8)
    (fst (eachE 8 gloE m.globals) (fst (eachE 8 impE m.exps) (fst (indexE m.start) (fst (eachE 4 elE m.elems) (eachE 4 datE m.data)))))))))))
structure SigV where
  vi : Value
  inn : List Int
  vo : Value
  out : List Int
structure FunV where
  ty : Int
  vl : Value
  loc : List Int
  vb : Value
  body : List InsV
structure ElV where
  pl : Int
  vf : Value
  fs : List Int
structure ModV where
  vt : Value
  types : List SigV
  vm : Value
  imps : List (List UInt8 × Int)
  vf : Value
  funcs : List FunV
  table : Int
  pages : Int
  most : Int
  vg : Value
  globals : List (Int × Bool × Int)
  vx : Value
  exps : List (List UInt8 × Int)
  start : Int
  ve : Value
  elems : List ElV
  vd : Value
  data : List (Int × List UInt8)
def SigV.d (x : SigV) : SigD := ⟨x.inn, x.out⟩
def FunV.d (x : FunV) : FunD := ⟨x.ty, x.loc, x.body.map InsV.d⟩
def ElV.d (x : ElV) : Int × List Int := (x.pl, x.fs)
def ModV.d (m : ModV) : ModD := ⟨m.types.map SigV.d, m.imps, m.funcs.map FunV.d, m.table, m.pages, m.most, m.globals, m.exps, m.start, m.elems.map ElV.d, m.data⟩
def enSg (x : SigV) : List Value := [x.vi, x.vo]
def enIm (x : List UInt8 × Int) : List Value := [.string (bs x.1), .int .i64 x.2]
def enFn (x : FunV) : List Value := [.int .i64 x.ty, x.vl, x.vb]
def enGl (x : Int × Bool × Int) : List Value := [.int .u8 x.1, .bool x.2.1, .int .i64 x.2.2]
def enEl (x : ElV) : List Value := [.int .i64 x.pl, x.vf]
def enDt (x : Int × List UInt8) : List Value := [.int .i64 x.1, .string (bs x.2)]
def enMd (m : ModV) : List Value := [m.vt, m.vm, m.vf, .int .i64 m.table, .int .i64 m.pages, .int .i64 m.most, m.vg, m.vx, .int .i64 m.start, m.ve, m.vd]
structure okSg (g : Glob) (x : SigV) : Prop where
  inn : FSl g enK U8 1 x.vi x.inn
  out : FSl g enK U8 1 x.vo x.out
structure okIm (x : List UInt8 × Int) : Prop where
  name : x.1.length ≤ 9223372036854775807
  ty : I64 x.2
structure okFn (g : Glob) (x : FunV) : Prop where
  ty : I64 x.ty
  loc : FSl g enK U8 1 x.vl x.loc
  body : FSl g enV (okV g) 4 x.vb x.body
structure okGl (x : Int × Bool × Int) : Prop where
  kind : U8 x.1
  start : I64 x.2.2
structure okEl (g : Glob) (x : ElV) : Prop where
  pl : I64 x.pl
  fs : FSl g enI okI 1 x.vf x.fs
structure okDt (x : Int × List UInt8) : Prop where
  pl : I64 x.1
  bytes : x.2.length ≤ 9223372036854775807
structure okMd (g : Glob) (m : ModV) : Prop where
  types : FSl g enSg (okSg g) 2 m.vt m.types
  imps : FSl g enIm okIm 2 m.vm m.imps
  funcs : FSl g enFn (okFn g) 3 m.vf m.funcs
  table : I64 m.table
  pages : I64 m.pages
  most : I64 m.most
  globals : FSl g enGl okGl 3 m.vg m.globals
  exps : FSl g enIm okIm 2 m.vx m.exps
  start : I64 m.start
  elems : FSl g enEl (okEl g) 2 m.ve m.elems
  data : FSl g enDt okDt 2 m.vd m.data
end Go.Proofs.YtcpniokopahakaaDoor.Bin
/- Package bin: Check. -/
set_option maxRecDepth 100000
set_option maxHeartbeats 4000000
set_option linter.unusedVariables false
set_option linter.unusedSimpArgs false
namespace Go.Proofs.YtcpniokopahakaaDoor.Bin
open Go Go.Proofs.YtcpniokopahakaaDoor.Eng Go.RowKit
open Ins Nest Leb
section
variable {g : Glob} {w : World} {l : List As} {pc q : Nat} {b : Int}
theorem isKind (k : Int) (w : World) : Fc Tryd.prog 144 #[.int .u8 k] w (fun v w' => (∃ r, v = .bool r ∧ (r = true ↔ k = 127 ∨ k = 126)) ∧ Sat (froz w) w' []) := by
  refine Fc.of Tryd.func144 rfl (by kernel_rfl) ?_
  have H := Sat.start w
  refine br (fun c1 => ?_) (fun c1 => ?_)
  · replace c1 := vEq_t (c1)
    refine Done.mk ?_
    refine ⟨?_, ?_⟩
    · (simp; omega)
    exact H
  replace c1 := vEq_f (c1)
  refine Done.mk ?_
  refine ⟨?_, ?_⟩
  · (simp [vEq_iff]; omega)
  exact H
theorem isIndex (n : Int) (w : World) : Fc Tryd.prog 143 #[.int .i64 n] w (fun v w' => (∃ r, v = .bool r ∧ (r = true ↔ 0 ≤ n ∧ n ≤ 4294967295)) ∧ Sat (froz w) w' []) := by
  refine Fc.of Tryd.func143 rfl (by kernel_rfl) ?_
  have H := Sat.start w
  refine br (fun c1 => ?_) (fun c1 => ?_)
  · replace c1 := vLe_t (c1)
    refine Done.mk ?_
    refine ⟨?_, ?_⟩
    · (simp [vLe_iff]; omega)
    exact H
  replace c1 := vLe_f (c1)
  refine Done.mk ?_
  refine ⟨?_, ?_⟩
  · (simp; omega)
  exact H
theorem isPlace (n : Int) (hn : I64 n) (w : World) : Fc Tryd.prog 146 #[.int .i64 n] w (fun v w' => (∃ r, v = .bool r ∧ (r = true ↔ -2147483648 ≤ n ∧ n ≤ 2147483647)) ∧ Sat (froz w) w' []) := by
  refine Fc.of Tryd.func146 rfl (by kernel_rfl) ?_
  have H := Sat.start w
  refine rConvInt rfl rfl ?_
  refine rConvInt rfl rfl ?_
  refine Done.mk ?_
  refine ⟨?_, ?_⟩
  · refine ⟨vEq n (vWrap IntKind.i64 (vWrap IntKind.i32 n)), ?_⟩
    refine ⟨?_, ?_⟩
    · rfl
    exact fits32 hn
  exact H
def ndE (r : Bool) (e : Int) : Int := if r = true then 0 else e
theorem nd1 {r : Bool} {e : Int} (h : b ≠ 0) : FE b (ndE r e) b := (fst_ne _ h).symm
theorem nd2 {r : Bool} {e : Int} (h : b = 0) (hr : r = true) : FE b (ndE r e) b := by subst h; subst hr; rfl
theorem nd3 {r : Bool} {e : Int} (h : b = 0) (hr : r = false) : FE b (ndE r e) e := by subst h; subst hr; rfl
theorem need (H : Sat g w (Pt pc [.int .i64 b] 155 :: l)) (r : Bool) (e : Int) : Fc Tryd.prog 94 #[.pointer (some ⟨pc, 0, none⟩), .bool r, .int .i64 e] w (fun _ w' => ∃ c, FE b (ndE r e) c ∧ Sat g w' (Pt pc [.int .i64 c] 155 :: l)) := by
  refine Fc.of Tryd.func94 rfl (by kernel_rfl) ?_
  refine rFieldAt rfl ?_
  refine rLd (H.at 0 rfl) 0 rfl rfl rfl ?_
  refine br (fun c1 => ?_) (fun c1 => ?_)
  · replace c1 := vEq_t (c1)
    refine cI (fun c2 => ?_) (fun c2 => ?_)
    · replace c2 := not_t (c2)
      refine rFieldAt rfl ?_
      refine rStS H 0 rfl rfl rfl rfl ?_
      clear H
      intro w1 H
      refine Done.mk ?_
      refine ⟨e, ?_⟩
      refine ⟨?_, ?_⟩
      · exact nd3 (by omega) (by assumption)
      exact H
    replace c2 := not_f (c2)
    refine Done.mk ?_
    refine ⟨b, ?_⟩
    refine ⟨?_, ?_⟩
    · exact nd2 (by omega) (by assumption)
    exact H
  replace c1 := vEq_f (c1)
  refine cF rfl ?_
  refine Done.mk ?_
  refine ⟨b, ?_⟩
  refine ⟨?_, ?_⟩
  · exact nd1 (by omega)
  exact H
theorem fe0 {e : Int} (h : b = 0) : FE b e e := by subst h; exact (fst_0 _).symm
theorem says (H : Sat g w (Pt pc [.int .i64 b] 155 :: l)) (e : Int) : Fc Tryd.prog 142 #[.pointer (some ⟨pc, 0, none⟩), .int .i64 e] w (fun _ w' => ∃ c, FE b e c ∧ Sat g w' (Pt pc [.int .i64 c] 155 :: l)) := by
  refine Fc.of Tryd.func142 rfl (by kernel_rfl) ?_
  refine rFieldAt rfl ?_
  refine rLd (H.at 0 rfl) 0 rfl rfl rfl ?_
  refine cI (fun c1 => ?_) (fun c1 => ?_)
  · replace c1 := vEq_t (c1)
    refine rFieldAt rfl ?_
    refine rStS H 0 rfl rfl rfl rfl ?_
    clear H
    intro w1 H
    refine Done.mk ?_
    refine ⟨e, ?_⟩
    refine ⟨?_, ?_⟩
    · exact fe0 (by assumption)
    exact H
  replace c1 := vEq_f (c1)
  refine Done.mk ?_
  refine ⟨b, ?_⟩
  refine ⟨?_, ?_⟩
  · exact (fst_ne _ (by omega)).symm
  exact H
theorem ndIff {r : Bool} {p : Prop} [Decidable p] {e c : Int} (hr : r = true ↔ p) (h : FE b (ndE r e) c) : FE b (if p then 0 else e) c := by
  unfold FE ndE at *; rw [h]
  by_cases hp : p
  · rw [if_pos (hr.2 hp), if_pos hp]
  · rw [if_neg fun k => hp (hr.1 k), if_neg hp]

theorem kind (H : Sat g w (Pt pc [.int .i64 b] 155 :: l)) (k : Int) : Fc Tryd.prog 97 #[.pointer (some ⟨pc, 0, none⟩), .int .u8 k] w (fun _ w' => ∃ c, FE b (kindE k) c ∧ Sat g w' (Pt pc [.int .i64 c] 155 :: l)) := by
  refine Fc.of Tryd.func97 rfl (by kernel_rfl) ?_
  refine CallP.mk (Fc.imp (Go.Proofs.YtcpniokopahakaaDoor.Bin.isKind _ _) ?_)
  rintro _ w1 ⟨⟨r1, ⟨rfl, h1⟩⟩, H'⟩
  refine H.mergeK H' ?_
  clear H H'
  intro H
  refine CallP.mk (Fc.imp (Go.Proofs.YtcpniokopahakaaDoor.Bin.need H _ _) ?_)
  clear H
  rintro v' w2 ⟨c1, ⟨h2, H⟩⟩
  refine Done.mk ?_
  refine ⟨c1, ?_⟩
  refine ⟨?_, ?_⟩
  · exact ndIff (by assumption) (by assumption)
  exact H
theorem index (H : Sat g w (Pt pc [.int .i64 b] 155 :: l)) (n : Int) : Fc Tryd.prog 91 #[.pointer (some ⟨pc, 0, none⟩), .int .i64 n] w (fun _ w' => ∃ c, FE b (indexE n) c ∧ Sat g w' (Pt pc [.int .i64 c] 155 :: l)) := by
  refine Fc.of Tryd.func91 rfl (by kernel_rfl) ?_
  refine CallP.mk (Fc.imp (Go.Proofs.YtcpniokopahakaaDoor.Bin.isIndex _ _) ?_)
  rintro _ w1 ⟨⟨r1, ⟨rfl, h1⟩⟩, H'⟩
  refine H.mergeK H' ?_
  clear H H'
  intro H
  refine CallP.mk (Fc.imp (Go.Proofs.YtcpniokopahakaaDoor.Bin.need H _ _) ?_)
  clear H
  rintro v' w2 ⟨c1, ⟨h2, H⟩⟩
  refine Done.mk ?_
  refine ⟨c1, ?_⟩
  refine ⟨?_, ?_⟩
  · exact ndIff (by assumption) (by assumption)
  exact H
theorem place (H : Sat g w (Pt pc [.int .i64 b] 155 :: l)) (n : Int) (hn : I64 n) : Fc Tryd.prog 104 #[.pointer (some ⟨pc, 0, none⟩), .int .i64 n] w (fun _ w' => ∃ c, FE b (placeE n) c ∧ Sat g w' (Pt pc [.int .i64 c] 155 :: l)) := by
  refine Fc.of Tryd.func104 rfl (by kernel_rfl) ?_
  refine CallP.mk (Fc.imp (Go.Proofs.YtcpniokopahakaaDoor.Bin.isPlace _ ?_ _) ?_)
  · assumption
  rintro _ w1 ⟨⟨r1, ⟨rfl, h1⟩⟩, H'⟩
  refine H.mergeK H' ?_
  clear H H'
  intro H
  refine CallP.mk (Fc.imp (Go.Proofs.YtcpniokopahakaaDoor.Bin.need H _ _) ?_)
  clear H
  rintro v' w2 ⟨c1, ⟨h2, H⟩⟩
  refine Done.mk ?_
  refine ⟨c1, ?_⟩
  refine ⟨?_, ?_⟩
  · exact ndIff (by assumption) (by assumption)
  exact H
theorem named (H : Sat g w (Pt pc [.int .i64 b] 155 :: l)) (hT : U8F g) (s : List UInt8) (hs : s.length ≤ 9223372036854775807) : Fc Tryd.prog 90 #[.pointer (some ⟨pc, 0, none⟩), .string (bs s)] w (fun _ w' => ∃ c, FE b (nameE s) c ∧ Sat g w' (Pt pc [.int .i64 c] 155 :: l)) := by
  refine Fc.of Tryd.func90 rfl (by kernel_rfl) ?_
  refine CallP.mk (Fc.imp (Go.Proofs.YtcpniokopahakaaDoor.Leb.name H ?_ _ ?_) ?_)
  · assumption
  · assumption
  clear H
  rintro _ w1 ⟨t1, ⟨e1, ⟨rfl, ⟨h1, ⟨h2, ⟨h3, H⟩⟩⟩⟩⟩⟩
  refine CallP.mk (Fc.imp (Go.Proofs.YtcpniokopahakaaDoor.Bin.says H _) ?_)
  clear H
  rintro v' w2 ⟨c1, ⟨h4, H⟩⟩
  refine Done.mk ?_
  refine ⟨c1, ?_⟩
  refine ⟨?_, ?_⟩
  · exact h1 ▸ h4
  exact H
theorem nd_le {a m : Int} : ndE (vLe a m) 2 = (if a ≤ m then 0 else 2) := by
  unfold ndE
  by_cases h : a ≤ m
  · rw [if_pos (by rw [vLe_iff]; simpa using h), if_pos h]
  · rw [if_neg (by rw [vLe_iff]; simpa using h), if_neg h]
theorem gl1 {x : Int × Bool × Int} {c d : Int} (h1 : FE b (kindE x.1) c) (h : x.1 ≠ 127) (h2 : FE c (ndE true 1) d) : FE b (gloE x) d := by
  refine FE.two h1 ?_
  have e : startE x.1 x.2.2 = 0 := if_pos (.inl h)
  rw [e]; exact h2
theorem gl2 {x : Int × Bool × Int} {c d : Int} (hx : I64 x.2.2) (h1 : FE b (kindE x.1) c) (h : x.1 = 127) (h2 : FE c (ndE (vEq x.2.2 (vWrap .i64 (vWrap .i32 x.2.2))) 1) d) : FE b (gloE x) d := by
  refine FE.two h1 ?_
  have e : startE x.1 x.2.2 = ndE (vEq x.2.2 (vWrap .i64 (vWrap .i32 x.2.2))) 1 := by
    unfold startE ndE
    by_cases hh : -2147483648 ≤ x.2.2 ∧ x.2.2 ≤ 2147483647
    · rw [if_pos (.inr hh), if_pos ((fits32 hx).2 hh)]
    · rw [if_neg (fun k => k.elim (fun k => k h) hh), if_neg (fun k => hh ((fits32 hx).1 k))]
  rw [e]; exact h2
theorem dt1 {x : Int × List UInt8} {c d : Int} (h1 : FE b (placeE x.1) c) (h2 : FE c (ndE (vLe x.2.length 64) 2) d) : FE b (datE x) d := by
  refine FE.two h1 ?_
  rw [nd_le] at h2; exact h2
theorem ex0 {α : Type} {f : α → Int} {m : Int} {xs : List α} {c : Int} (h : FE b (ndE (vLe xs.length m) 2) c) : fst c (allE f (xs.drop 0)) = fst b (eachE m f xs) := by
  unfold FE at h; subst h
  have : ndE (vLe xs.length m) 2 = manyE xs.length m := by
    unfold ndE manyE
    by_cases h : (xs.length : Int) ≤ m
    · rw [if_pos (by rw [vLe_iff]; simpa using h), if_pos h]
    · rw [if_neg (by rw [vLe_iff]; simpa using h), if_neg h]
  rw [this, fst_assoc, List.drop_zero]; rfl
theorem ex1 {α : Type} {f : α → Int} {m : Int} {xs : List α} {c : Int} {i : Nat} (hi : xs.length ≤ i) (h : fst c (allE f (xs.drop i)) = fst b (eachE m f xs)) : FE b (eachE m f xs) c := by
  rw [List.drop_of_length_le hi] at h
  exact (fst_z c).symm.trans h
theorem ex2 {α : Type} {f : α → Int} {m : Int} {xs : List α} {c : Int} {i : Nat} (hc : c ≠ 0) (h : fst c (allE f (xs.drop i)) = fst b (eachE m f xs)) : FE b (eachE m f xs) c := by
  rw [fst_ne _ hc] at h; exact h
theorem ex3 {α : Type} {f : α → Int} {m : Int} {xs : List α} {c d : Int} {i : Nat} {a : α} (hx : xs[i]? = some a) (hd : FE c (f a) d) (h : fst c (allE f (xs.drop i)) = fst b (eachE m f xs)) : fst d (allE f (xs.drop (i + 1))) = fst b (eachE m f xs) := by
  have hh := List.getElem?_eq_some_iff.1 hx
  rw [List.drop_eq_getElem_cons hh.1, hh.2, allE] at h
  unfold FE at hd; rw [hd, fst_assoc]; exact h

theorem eachK (H : Sat g w (Pt pc [.int .i64 b] 155 :: l)) (m : Int) (v : Value) (xs : List Int) (hx : FSl g enK U8 1 v xs) : Fc Tryd.prog 141 #[.pointer (some ⟨pc, 0, none⟩), v, .int .i64 m, .func (.func 97) #[.pointer (some ⟨pc, 0, none⟩)] #[]] w (fun _ w' => ∃ c, FE b (eachE m kindE xs) c ∧ Sat g w' (Pt pc [.int .i64 c] 155 :: l)) := by
  refine Fc.of Tryd.func141 rfl (by kernel_rfl) ?_
  have hbd := SlR.len hx
  refine rLenF hx rfl ?_
  refine CallP.mk (Fc.imp (Go.Proofs.YtcpniokopahakaaDoor.Bin.need H _ _) ?_)
  clear H
  rintro v' w1 ⟨c1, ⟨h1, H⟩⟩
  refine rLenF hx rfl ?_
  refine LoopP.rule (α := Nat × Int) (0, c1) (fun x_ => [(18, .int .i64 x_.1)]) (fun x_ w_ => (x_.1 ≤ xs.length) ∧ (fst x_.2 (allE kindE (xs.drop x_.1)) = fst b (eachE m kindE xs)) ∧ Sat g w_ ((Pt pc [.int .i64 x_.2] 155 :: l))) (fun x_ => xs.length - x_.1) ?_ ?_ ?_
  · repeat first | exact mt_nil | refine mt_cons rfl ?_ | refine mt_i rfl (by first | omega | (simp only; omega) | (simp; omega) | (simp; done)) ?_
  · try simp only
    refine ⟨?_, ?_⟩
    · omega
    refine ⟨?_, ?_⟩
    · exact ex0 (by assumption)
    exact H
  clear H
  rintro ⟨i, d⟩ f_ w_ ⟨hi, hb, H⟩
  try simp only at hi hb H ⊢
  refine cI (fun c2 => ?_) (fun c2 => ?_)
  · replace c2 := vLt_t (c2)
    refine bk ?_
    obtain ⟨x1, hx1⟩ : ∃ x, (xs)[(i)]? = some x := ⟨_, List.getElem?_eq_getElem (by omega)⟩
    obtain ⟨b1, o1, E1, F1, hok1⟩ := FSl.elt hx hx1
    refine rIxE E1 rfl rfl rfl ?_
    refine rLd (H.fat F1) 0 rfl rfl rfl ?_
    refine rFieldAt rfl ?_
    refine rLd (H.at 0 rfl) 0 rfl rfl rfl ?_
    refine cI (fun c3 => ?_) (fun c3 => ?_)
    · replace c3 := vNe_t (c3)
      refine Done.mk ?_
      refine ⟨d, ?_⟩
      refine ⟨?_, ?_⟩
      · exact ex2 (by omega) hb
      exact H
    replace c3 := vNe_f (c3)
    refine CallP.mk (Fc.imp (Go.Proofs.YtcpniokopahakaaDoor.Bin.kind H _) ?_)
    clear H
    rintro va' w2 ⟨c4, ⟨h2, H⟩⟩
    refine eqI64 (by omega) ?_
    refine Nxt.mk ((i + 1, c4)) (mt_i rfl (by first | omega | (simp only; omega) | (simp; omega)) (mt_nil)) ?_ ?_
    · refine ⟨?_, ?_⟩
      · omega
      refine ⟨?_, ?_⟩
      · exact ex3 hx1 (by assumption) hb
      exact H
    omega
  replace c2 := vLt_f (c2)
  refine Done.mk ?_
  refine ⟨d, ?_⟩
  refine ⟨?_, ?_⟩
  · exact ex1 (by omega) hb
  exact H

theorem eachN (H : Sat g w (Pt pc [.int .i64 b] 155 :: l)) (m : Int) (v : Value) (xs : List Int) (hx : FSl g enI okI 1 v xs) : Fc Tryd.prog 145 #[.pointer (some ⟨pc, 0, none⟩), v, .int .i64 m, .func (.func 91) #[.pointer (some ⟨pc, 0, none⟩)] #[]] w (fun _ w' => ∃ c, FE b (eachE m indexE xs) c ∧ Sat g w' (Pt pc [.int .i64 c] 155 :: l)) := by
  refine Fc.of Tryd.func145 rfl (by kernel_rfl) ?_
  have hbd := SlR.len hx
  refine rLenF hx rfl ?_
  refine CallP.mk (Fc.imp (Go.Proofs.YtcpniokopahakaaDoor.Bin.need H _ _) ?_)
  clear H
  rintro v' w1 ⟨c1, ⟨h1, H⟩⟩
  refine rLenF hx rfl ?_
  refine LoopP.rule (α := Nat × Int) (0, c1) (fun x_ => [(18, .int .i64 x_.1)]) (fun x_ w_ => (x_.1 ≤ xs.length) ∧ (fst x_.2 (allE indexE (xs.drop x_.1)) = fst b (eachE m indexE xs)) ∧ Sat g w_ ((Pt pc [.int .i64 x_.2] 155 :: l))) (fun x_ => xs.length - x_.1) ?_ ?_ ?_
  · repeat first | exact mt_nil | refine mt_cons rfl ?_ | refine mt_i rfl (by first | omega | (simp only; omega) | (simp; omega) | (simp; done)) ?_
  · try simp only
    refine ⟨?_, ?_⟩
    · omega
    refine ⟨?_, ?_⟩
    · exact ex0 (by assumption)
    exact H
  clear H
  rintro ⟨i, d⟩ f_ w_ ⟨hi, hb, H⟩
  try simp only at hi hb H ⊢
  refine cI (fun c2 => ?_) (fun c2 => ?_)
  · replace c2 := vLt_t (c2)
    refine bk ?_
    obtain ⟨x1, hx1⟩ : ∃ x, (xs)[(i)]? = some x := ⟨_, List.getElem?_eq_getElem (by omega)⟩
    obtain ⟨b1, o1, E1, F1, hok1⟩ := FSl.elt hx hx1
    refine rIxE E1 rfl rfl rfl ?_
    refine rLd (H.fat F1) 0 rfl rfl rfl ?_
    refine rFieldAt rfl ?_
    refine rLd (H.at 0 rfl) 0 rfl rfl rfl ?_
    refine cI (fun c3 => ?_) (fun c3 => ?_)
    · replace c3 := vNe_t (c3)
      refine Done.mk ?_
      refine ⟨d, ?_⟩
      refine ⟨?_, ?_⟩
      · exact ex2 (by omega) hb
      exact H
    replace c3 := vNe_f (c3)
    refine CallP.mk (Fc.imp (Go.Proofs.YtcpniokopahakaaDoor.Bin.index H _) ?_)
    clear H
    rintro va' w2 ⟨c4, ⟨h2, H⟩⟩
    refine eqI64 (by omega) ?_
    refine Nxt.mk ((i + 1, c4)) (mt_i rfl (by first | omega | (simp only; omega) | (simp; omega)) (mt_nil)) ?_ ?_
    · refine ⟨?_, ?_⟩
      · omega
      refine ⟨?_, ?_⟩
      · exact ex3 hx1 (by assumption) hb
      exact H
    omega
  replace c2 := vLt_f (c2)
  refine Done.mk ?_
  refine ⟨d, ?_⟩
  refine ⟨?_, ?_⟩
  · exact ex1 (by omega) hb
  exact H

theorem sig (H : Sat g w (Pt pc [.int .i64 b] 155 :: l)) (x : SigV) (hx : okSg g x) : Fc Tryd.prog 87 #[.pointer (some ⟨pc, 0, none⟩), .agg #[x.vi, x.vo]] w (fun _ w' => ∃ c, FE b (sigE x.d) c ∧ Sat g w' (Pt pc [.int .i64 c] 155 :: l)) := by
  refine Fc.of Tryd.func87 rfl (by kernel_rfl) ?_
  have hx_inn := hx.inn
  have hx_out := hx.out
  refine rBoxS H ?_
  clear H
  intro p1 w1 H
  refine rFieldAt rfl ?_
  refine rLd (H.at 0 rfl) 0 rfl rfl rfl ?_
  refine H.fronts [1] ?_
  clear H
  intro H
  refine CallP.mk (Fc.imp (Go.Proofs.YtcpniokopahakaaDoor.Bin.eachK H _ _ _ hx_inn) ?_)
  clear H
  rintro v' w2 ⟨c1, ⟨h1, H⟩⟩
  refine rFieldAt rfl ?_
  refine rLd (H.at 1 rfl) 1 rfl rfl rfl ?_
  refine CallP.mk (Fc.imp (Go.Proofs.YtcpniokopahakaaDoor.Bin.eachK H _ _ _ hx_out) ?_)
  clear H
  rintro va' w3 ⟨c2, ⟨h2, H⟩⟩
  refine Done.mk ?_
  refine ⟨c2, ?_⟩
  refine ⟨?_, ?_⟩
  · exact FE.two (by assumption) (by assumption)
  refine H.drop 1 ?_
  clear H
  intro H
  exact H

theorem eachSg (H : Sat g w (Pt pc [.int .i64 b] 155 :: l)) (m : Int) (v : Value) (xs : List SigV) (hx : FSl g enSg (okSg g) 2 v xs) : Fc Tryd.prog 86 #[.pointer (some ⟨pc, 0, none⟩), v, .int .i64 m, .func (.func 87) #[.pointer (some ⟨pc, 0, none⟩)] #[]] w (fun _ w' => ∃ c, FE b (eachE m (fun x : SigV => sigE x.d) xs) c ∧ Sat g w' (Pt pc [.int .i64 c] 155 :: l)) := by
  refine Fc.of Tryd.func86 rfl (by kernel_rfl) ?_
  have hbd := SlR.len hx
  refine rLenF hx rfl ?_
  refine CallP.mk (Fc.imp (Go.Proofs.YtcpniokopahakaaDoor.Bin.need H _ _) ?_)
  clear H
  rintro v' w1 ⟨c1, ⟨h1, H⟩⟩
  refine rLenF hx rfl ?_
  refine LoopP.rule (α := Nat × Int) (0, c1) (fun x_ => [(18, .int .i64 x_.1)]) (fun x_ w_ => (x_.1 ≤ xs.length) ∧ (fst x_.2 (allE (fun x : SigV => sigE x.d) (xs.drop x_.1)) = fst b (eachE m (fun x : SigV => sigE x.d) xs)) ∧ Sat g w_ ((Pt pc [.int .i64 x_.2] 155 :: l))) (fun x_ => xs.length - x_.1) ?_ ?_ ?_
  · repeat first | exact mt_nil | refine mt_cons rfl ?_ | refine mt_i rfl (by first | omega | (simp only; omega) | (simp; omega) | (simp; done)) ?_
  · try simp only
    refine ⟨?_, ?_⟩
    · omega
    refine ⟨?_, ?_⟩
    · exact ex0 (by assumption)
    exact H
  clear H
  rintro ⟨i, d⟩ f_ w_ ⟨hi, hb, H⟩
  try simp only at hi hb H ⊢
  refine cI (fun c2 => ?_) (fun c2 => ?_)
  · replace c2 := vLt_t (c2)
    refine bk ?_
    obtain ⟨x1, hx1⟩ : ∃ x, (xs)[(i)]? = some x := ⟨_, List.getElem?_eq_getElem (by omega)⟩
    obtain ⟨b1, o1, E1, F1, hok1⟩ := FSl.elt hx hx1
    have hok1_inn := hok1.inn
    have hok1_out := hok1.out
    refine rIxE E1 rfl rfl rfl ?_
    refine rLdA (H.fat F1) 0 rfl rfl rfl ?_
    refine rAllocS H rfl ?_
    clear H
    intro p1 w2 H
    clear w_
    refine rStAS H 0 rfl rfl rfl (by simp only [List.all_cons, List.all_nil, FSl.one hok1_out, FSl.one hok1_inn, FSl.one hx]; rfl) ?_
    clear H
    intro w3 H
    clear w2
    refine rFieldAt rfl ?_
    refine rLd (H.at 1 rfl) 0 rfl rfl rfl ?_
    refine cI (fun c3 => ?_) (fun c3 => ?_)
    · replace c3 := vNe_t (c3)
      refine Done.mk ?_
      refine ⟨d, ?_⟩
      refine ⟨?_, ?_⟩
      · exact ex2 (by omega) hb
      refine H.fronts [1] ?_
      clear H
      intro H
      refine H.drop 1 ?_
      clear H
      intro H
      exact H
    replace c3 := vNe_f (c3)
    refine rLdA (H.at 0 rfl) 0 rfl rfl rfl ?_
    refine H.fronts [1] ?_
    clear H
    intro H
    refine CallP.mk (Fc.imp (Go.Proofs.YtcpniokopahakaaDoor.Bin.sig H _ ?_) ?_)
    · assumption
    clear H
    rintro va' w2 ⟨c4, ⟨h2, H⟩⟩
    refine eqI64 (by omega) ?_
    refine Nxt.mk ((i + 1, c4)) (mt_i rfl (by first | omega | (simp only; omega) | (simp; omega)) (mt_nil)) ?_ ?_
    · refine ⟨?_, ?_⟩
      · omega
      refine ⟨?_, ?_⟩
      · exact ex3 hx1 (by assumption) hb
      refine H.drop 1 ?_
      clear H
      intro H
      exact H
    omega
  replace c2 := vLt_f (c2)
  refine Done.mk ?_
  refine ⟨d, ?_⟩
  refine ⟨?_, ?_⟩
  · exact ex1 (by omega) hb
  exact H

theorem imp1 (H : Sat g w (Pt pc [.int .i64 b] 155 :: Pt q [.pointer (some ⟨pc, 0, none⟩)] 153 :: l)) (hT : U8F g) (x : List UInt8 × Int) (hx : okIm x) : Fc Tryd.prog 89 #[.agg #[.string (bs x.1), .int .i64 x.2], .pointer (some ⟨q, 0, none⟩)] w (fun _ w' => ∃ c, FE b (impE x) c ∧ Sat g w' (Pt pc [.int .i64 c] 155 :: Pt q [.pointer (some ⟨pc, 0, none⟩)] 153 :: l)) := by
  refine Fc.of Tryd.func89 rfl (by kernel_rfl) ?_
  have hx_name := hx.name
  have hx_ty := hx.ty
  refine rBoxS H ?_
  clear H
  intro p1 w1 H
  refine rLd (H.at 2 rfl) 0 rfl rfl rfl ?_
  refine rFieldAt rfl ?_
  refine rLd (H.at 0 rfl) 0 rfl rfl rfl ?_
  refine H.fronts [1] ?_
  clear H
  intro H
  refine CallP.mk (Fc.imp (Go.Proofs.YtcpniokopahakaaDoor.Bin.named H ?_ _ ?_) ?_)
  · assumption
  · assumption
  clear H
  rintro v' w2 ⟨c1, ⟨h1, H⟩⟩
  refine rLd (H.at 2 rfl) 0 rfl rfl rfl ?_
  refine rFieldAt rfl ?_
  refine rLd (H.at 1 rfl) 1 rfl rfl rfl ?_
  refine CallP.mk (Fc.imp (Go.Proofs.YtcpniokopahakaaDoor.Bin.index H _) ?_)
  clear H
  rintro va' w3 ⟨c2, ⟨h2, H⟩⟩
  refine Done.mk ?_
  refine ⟨c2, ?_⟩
  refine ⟨?_, ?_⟩
  · exact FE.two (by assumption) (by assumption)
  refine H.fronts [2, 1] ?_
  clear H
  intro H
  refine H.drop 2 ?_
  clear H
  intro H
  exact H

theorem eachIm (H : Sat g w (Pt pc [.int .i64 b] 155 :: Pt q [.pointer (some ⟨pc, 0, none⟩)] 153 :: l)) (hT : U8F g) (m : Int) (v : Value) (xs : List (List UInt8 × Int)) (hx : FSl g enIm okIm 2 v xs) : Fc Tryd.prog 88 #[.pointer (some ⟨pc, 0, none⟩), v, .int .i64 m, .func (.func 89) #[] #[.pointer (some ⟨q, 0, none⟩)]] w (fun _ w' => ∃ c, FE b (eachE m impE xs) c ∧ Sat g w' (Pt pc [.int .i64 c] 155 :: Pt q [.pointer (some ⟨pc, 0, none⟩)] 153 :: l)) := by
  refine Fc.of Tryd.func88 rfl (by kernel_rfl) ?_
  have hbd := SlR.len hx
  refine rLenF hx rfl ?_
  refine CallP.mk (Fc.imp (Go.Proofs.YtcpniokopahakaaDoor.Bin.need H _ _) ?_)
  clear H
  rintro v' w1 ⟨c1, ⟨h1, H⟩⟩
  refine rLenF hx rfl ?_
  refine LoopP.rule (α := Nat × Int) (0, c1) (fun x_ => [(18, .int .i64 x_.1)]) (fun x_ w_ => (x_.1 ≤ xs.length) ∧ (fst x_.2 (allE impE (xs.drop x_.1)) = fst b (eachE m impE xs)) ∧ Sat g w_ ((Pt pc [.int .i64 x_.2] 155 :: Pt q [.pointer (some ⟨pc, 0, none⟩)] 153 :: l))) (fun x_ => xs.length - x_.1) ?_ ?_ ?_
  · repeat first | exact mt_nil | refine mt_cons rfl ?_ | refine mt_i rfl (by first | omega | (simp only; omega) | (simp; omega) | (simp; done)) ?_
  · try simp only
    refine ⟨?_, ?_⟩
    · omega
    refine ⟨?_, ?_⟩
    · exact ex0 (by assumption)
    exact H
  clear H
  rintro ⟨i, d⟩ f_ w_ ⟨hi, hb, H⟩
  try simp only at hi hb H ⊢
  refine cI (fun c2 => ?_) (fun c2 => ?_)
  · replace c2 := vLt_t (c2)
    refine bk ?_
    obtain ⟨x1, hx1⟩ : ∃ x, (xs)[(i)]? = some x := ⟨_, List.getElem?_eq_getElem (by omega)⟩
    obtain ⟨b1, o1, E1, F1, hok1⟩ := FSl.elt hx hx1
    have hok1_name := hok1.name
    have hok1_ty := hok1.ty
    refine rIxE E1 rfl rfl rfl ?_
    refine rLdA (H.fat F1) 0 rfl rfl rfl ?_
    refine rAllocS H rfl ?_
    clear H
    intro p1 w2 H
    clear w_
    refine rStAS H 0 rfl rfl rfl rfl ?_
    clear H
    intro w3 H
    clear w2
    refine rFieldAt rfl ?_
    refine rLd (H.at 1 rfl) 0 rfl rfl rfl ?_
    refine cI (fun c3 => ?_) (fun c3 => ?_)
    · replace c3 := vNe_t (c3)
      refine Done.mk ?_
      refine ⟨d, ?_⟩
      refine ⟨?_, ?_⟩
      · exact ex2 (by omega) hb
      refine H.fronts [2, 2] ?_
      clear H
      intro H
      refine H.drop 2 ?_
      clear H
      intro H
      exact H
    replace c3 := vNe_f (c3)
    refine rLdA (H.at 0 rfl) 0 rfl rfl rfl ?_
    refine H.fronts [2, 2] ?_
    clear H
    intro H
    refine CallP.mk (Fc.imp (Go.Proofs.YtcpniokopahakaaDoor.Bin.imp1 H ?_ _ ?_) ?_)
    · assumption
    · assumption
    clear H
    rintro va' w2 ⟨c4, ⟨h2, H⟩⟩
    refine eqI64 (by omega) ?_
    refine Nxt.mk ((i + 1, c4)) (mt_i rfl (by first | omega | (simp only; omega) | (simp; omega)) (mt_nil)) ?_ ?_
    · refine ⟨?_, ?_⟩
      · omega
      refine ⟨?_, ?_⟩
      · exact ex3 hx1 (by assumption) hb
      refine H.drop 2 ?_
      clear H
      intro H
      exact H
    omega
  replace c2 := vLt_f (c2)
  refine Done.mk ?_
  refine ⟨d, ?_⟩
  refine ⟨?_, ?_⟩
  · exact ex1 (by omega) hb
  exact H

theorem fun1 {b c d : Int} {x : FunV} (h1 : FE b (indexE x.ty) c) (h2 : FE c (eachE 16 kindE x.loc) d) (h : d ≠ 0) : FE b (funE x.d) d := by
  unfold FE at *
  have : fst d (chkB x.d.body) = d := fst_ne _ h
  rw [← this, h2, h1, fst_assoc, fst_assoc]; rfl
theorem fun2 {b c d e : Int} {x : FunV} (h1 : FE b (indexE x.ty) c) (h2 : FE c (eachE 16 kindE x.loc) d) (h : d = 0) (he : e = chkB (x.body.map InsV.d)) : FE b (funE x.d) e := by
  unfold FE at *
  have : fst d (chkB x.d.body) = e := by rw [h, fst_0]; exact he.symm
  rw [← this, h2, h1, fst_assoc, fst_assoc]; rfl

theorem function (H : Sat g w (Pt pc [.int .i64 b] 155 :: l)) (x : FunV) (hx : okFn g x) : Fc Tryd.prog 93 #[.pointer (some ⟨pc, 0, none⟩), .agg #[.int .i64 x.ty, x.vl, x.vb]] w (fun _ w' => ∃ c, FE b (funE x.d) c ∧ Sat g w' (Pt pc [.int .i64 c] 155 :: l)) := by
  refine Fc.of Tryd.func93 rfl (by kernel_rfl) ?_
  have hx_ty := hx.ty
  have hx_loc := hx.loc
  have hx_body := hx.body
  refine rBoxS H ?_
  clear H
  intro p1 w1 H
  refine rFieldAt rfl ?_
  refine rLd (H.at 0 rfl) 0 rfl rfl rfl ?_
  refine H.fronts [1] ?_
  clear H
  intro H
  refine CallP.mk (Fc.imp (Go.Proofs.YtcpniokopahakaaDoor.Bin.index H _) ?_)
  clear H
  rintro v' w2 ⟨c1, ⟨h1, H⟩⟩
  refine rFieldAt rfl ?_
  refine rLd (H.at 1 rfl) 1 rfl rfl rfl ?_
  refine CallP.mk (Fc.imp (Go.Proofs.YtcpniokopahakaaDoor.Bin.eachK H _ _ _ hx_loc) ?_)
  clear H
  rintro va' w3 ⟨c2, ⟨h2, H⟩⟩
  refine rFieldAt rfl ?_
  refine rLd (H.at 0 rfl) 0 rfl rfl rfl ?_
  refine cI (fun c3 => ?_) (fun c3 => ?_)
  · replace c3 := vEq_t (c3)
    refine rFieldAt rfl ?_
    refine rLd (H.at 1 rfl) 2 rfl rfl rfl ?_
    refine CallP.mk (Fc.imp (Go.Proofs.YtcpniokopahakaaDoor.Nest.check H _ _ hx_body) ?_)
    clear H
    rintro _ w4 ⟨⟨e1, ⟨rfl, h3⟩⟩, H⟩
    refine rFieldAt rfl ?_
    refine rStS H 0 rfl rfl rfl rfl ?_
    clear H
    intro w5 H
    clear w4
    refine Done.mk ?_
    refine ⟨e1, ?_⟩
    refine ⟨?_, ?_⟩
    · exact fun2 (by assumption) (by assumption) (by omega) (by assumption)
    refine H.drop 1 ?_
    clear H
    intro H
    exact H
  replace c3 := vEq_f (c3)
  refine Done.mk ?_
  refine ⟨c2, ?_⟩
  refine ⟨?_, ?_⟩
  · exact fun1 (by assumption) (by assumption) (by omega)
  refine H.drop 1 ?_
  clear H
  intro H
  exact H

theorem eachFn (H : Sat g w (Pt pc [.int .i64 b] 155 :: l)) (m : Int) (v : Value) (xs : List FunV) (hx : FSl g enFn (okFn g) 3 v xs) : Fc Tryd.prog 92 #[.pointer (some ⟨pc, 0, none⟩), v, .int .i64 m, .func (.func 93) #[.pointer (some ⟨pc, 0, none⟩)] #[]] w (fun _ w' => ∃ c, FE b (eachE m (fun x : FunV => funE x.d) xs) c ∧ Sat g w' (Pt pc [.int .i64 c] 155 :: l)) := by
  refine Fc.of Tryd.func92 rfl (by kernel_rfl) ?_
  have hbd := SlR.len hx
  refine rLenF hx rfl ?_
  refine CallP.mk (Fc.imp (Go.Proofs.YtcpniokopahakaaDoor.Bin.need H _ _) ?_)
  clear H
  rintro v' w1 ⟨c1, ⟨h1, H⟩⟩
  refine rLenF hx rfl ?_
  refine LoopP.rule (α := Nat × Int) (0, c1) (fun x_ => [(18, .int .i64 x_.1)]) (fun x_ w_ => (x_.1 ≤ xs.length) ∧ (fst x_.2 (allE (fun x : FunV => funE x.d) (xs.drop x_.1)) = fst b (eachE m (fun x : FunV => funE x.d) xs)) ∧ Sat g w_ ((Pt pc [.int .i64 x_.2] 155 :: l))) (fun x_ => xs.length - x_.1) ?_ ?_ ?_
  · repeat first | exact mt_nil | refine mt_cons rfl ?_ | refine mt_i rfl (by first | omega | (simp only; omega) | (simp; omega) | (simp; done)) ?_
  · try simp only
    refine ⟨?_, ?_⟩
    · omega
    refine ⟨?_, ?_⟩
    · exact ex0 (by assumption)
    exact H
  clear H
  rintro ⟨i, d⟩ f_ w_ ⟨hi, hb, H⟩
  try simp only at hi hb H ⊢
  refine cI (fun c2 => ?_) (fun c2 => ?_)
  · replace c2 := vLt_t (c2)
    refine bk ?_
    obtain ⟨x1, hx1⟩ : ∃ x, (xs)[(i)]? = some x := ⟨_, List.getElem?_eq_getElem (by omega)⟩
    obtain ⟨b1, o1, E1, F1, hok1⟩ := FSl.elt hx hx1
    have hok1_ty := hok1.ty
    have hok1_loc := hok1.loc
    have hok1_body := hok1.body
    refine rIxE E1 rfl rfl rfl ?_
    refine rLdA (H.fat F1) 0 rfl rfl rfl ?_
    refine rAllocS H rfl ?_
    clear H
    intro p1 w2 H
    clear w_
    refine rStAS H 0 rfl rfl rfl (by simp only [List.all_cons, List.all_nil, FSl.one hok1_body, FSl.one hok1_loc, FSl.one hx]; rfl) ?_
    clear H
    intro w3 H
    clear w2
    refine rFieldAt rfl ?_
    refine rLd (H.at 1 rfl) 0 rfl rfl rfl ?_
    refine cI (fun c3 => ?_) (fun c3 => ?_)
    · replace c3 := vNe_t (c3)
      refine Done.mk ?_
      refine ⟨d, ?_⟩
      refine ⟨?_, ?_⟩
      · exact ex2 (by omega) hb
      refine H.fronts [1] ?_
      clear H
      intro H
      refine H.drop 1 ?_
      clear H
      intro H
      exact H
    replace c3 := vNe_f (c3)
    refine rLdA (H.at 0 rfl) 0 rfl rfl rfl ?_
    refine H.fronts [1] ?_
    clear H
    intro H
    refine CallP.mk (Fc.imp (Go.Proofs.YtcpniokopahakaaDoor.Bin.function H _ ?_) ?_)
    · assumption
    clear H
    rintro va' w2 ⟨c4, ⟨h2, H⟩⟩
    refine eqI64 (by omega) ?_
    refine Nxt.mk ((i + 1, c4)) (mt_i rfl (by first | omega | (simp only; omega) | (simp; omega)) (mt_nil)) ?_ ?_
    · refine ⟨?_, ?_⟩
      · omega
      refine ⟨?_, ?_⟩
      · exact ex3 hx1 (by assumption) hb
      refine H.drop 1 ?_
      clear H
      intro H
      exact H
    omega
  replace c2 := vLt_f (c2)
  refine Done.mk ?_
  refine ⟨d, ?_⟩
  refine ⟨?_, ?_⟩
  · exact ex1 (by omega) hb
  exact H

theorem glo1 (H : Sat g w (Pt pc [.int .i64 b] 155 :: Pt q [.pointer (some ⟨pc, 0, none⟩)] 153 :: l)) (x : Int × Bool × Int) (hx : okGl x) : Fc Tryd.prog 96 #[.agg #[.int .u8 x.1, .bool x.2.1, .int .i64 x.2.2], .pointer (some ⟨q, 0, none⟩)] w (fun _ w' => ∃ c, FE b (gloE x) c ∧ Sat g w' (Pt pc [.int .i64 c] 155 :: Pt q [.pointer (some ⟨pc, 0, none⟩)] 153 :: l)) := by
  refine Fc.of Tryd.func96 rfl (by kernel_rfl) ?_
  have hx_kind := hx.kind
  have hx_start := hx.start
  refine rBoxS H ?_
  clear H
  intro p1 w1 H
  refine rLd (H.at 2 rfl) 0 rfl rfl rfl ?_
  refine rFieldAt rfl ?_
  refine rLd (H.at 0 rfl) 0 rfl rfl rfl ?_
  refine H.fronts [1] ?_
  clear H
  intro H
  refine CallP.mk (Fc.imp (Go.Proofs.YtcpniokopahakaaDoor.Bin.kind H _) ?_)
  clear H
  rintro v' w2 ⟨c1, ⟨h1, H⟩⟩
  refine rLd (H.at 2 rfl) 0 rfl rfl rfl ?_
  refine rFieldAt rfl ?_
  refine rLd (H.at 1 rfl) 0 rfl rfl rfl ?_
  refine br (fun c2 => ?_) (fun c2 => ?_)
  · replace c2 := vNe_t (c2)
    refine CallP.mk (Fc.imp (Go.Proofs.YtcpniokopahakaaDoor.Bin.need H _ _) ?_)
    clear H
    rintro va' w3 ⟨c3, ⟨h2, H⟩⟩
    refine Done.mk ?_
    refine ⟨c3, ?_⟩
    refine ⟨?_, ?_⟩
    · exact gl1 h1 (by assumption) (by assumption)
    refine H.fronts [2, 1] ?_
    clear H
    intro H
    refine H.drop 2 ?_
    clear H
    intro H
    exact H
  replace c2 := vNe_f (c2)
  refine rFieldAt rfl ?_
  refine rLd (H.at 1 rfl) 2 rfl rfl rfl ?_
  refine rFieldAt rfl ?_
  refine rLd (H.at 1 rfl) 2 rfl rfl rfl ?_
  refine rConvInt rfl rfl ?_
  refine rConvInt rfl rfl ?_
  refine CallP.mk (Fc.imp (Go.Proofs.YtcpniokopahakaaDoor.Bin.need H _ _) ?_)
  clear H
  rintro va' w3 ⟨c3, ⟨h2, H⟩⟩
  refine Done.mk ?_
  refine ⟨c3, ?_⟩
  refine ⟨?_, ?_⟩
  · exact gl2 hx_start h1 (by omega) (by assumption)
  refine H.fronts [2, 1] ?_
  clear H
  intro H
  refine H.drop 2 ?_
  clear H
  intro H
  exact H

theorem eachGl (H : Sat g w (Pt pc [.int .i64 b] 155 :: Pt q [.pointer (some ⟨pc, 0, none⟩)] 153 :: l)) (m : Int) (v : Value) (xs : List (Int × Bool × Int)) (hx : FSl g enGl okGl 3 v xs) : Fc Tryd.prog 95 #[.pointer (some ⟨pc, 0, none⟩), v, .int .i64 m, .func (.func 96) #[] #[.pointer (some ⟨q, 0, none⟩)]] w (fun _ w' => ∃ c, FE b (eachE m gloE xs) c ∧ Sat g w' (Pt pc [.int .i64 c] 155 :: Pt q [.pointer (some ⟨pc, 0, none⟩)] 153 :: l)) := by
  refine Fc.of Tryd.func95 rfl (by kernel_rfl) ?_
  have hbd := SlR.len hx
  refine rLenF hx rfl ?_
  refine CallP.mk (Fc.imp (Go.Proofs.YtcpniokopahakaaDoor.Bin.need H _ _) ?_)
  clear H
  rintro v' w1 ⟨c1, ⟨h1, H⟩⟩
  refine rLenF hx rfl ?_
  refine LoopP.rule (α := Nat × Int) (0, c1) (fun x_ => [(18, .int .i64 x_.1)]) (fun x_ w_ => (x_.1 ≤ xs.length) ∧ (fst x_.2 (allE gloE (xs.drop x_.1)) = fst b (eachE m gloE xs)) ∧ Sat g w_ ((Pt pc [.int .i64 x_.2] 155 :: Pt q [.pointer (some ⟨pc, 0, none⟩)] 153 :: l))) (fun x_ => xs.length - x_.1) ?_ ?_ ?_
  · repeat first | exact mt_nil | refine mt_cons rfl ?_ | refine mt_i rfl (by first | omega | (simp only; omega) | (simp; omega) | (simp; done)) ?_
  · try simp only
    refine ⟨?_, ?_⟩
    · omega
    refine ⟨?_, ?_⟩
    · exact ex0 (by assumption)
    exact H
  clear H
  rintro ⟨i, d⟩ f_ w_ ⟨hi, hb, H⟩
  try simp only at hi hb H ⊢
  refine cI (fun c2 => ?_) (fun c2 => ?_)
  · replace c2 := vLt_t (c2)
    refine bk ?_
    obtain ⟨x1, hx1⟩ : ∃ x, (xs)[(i)]? = some x := ⟨_, List.getElem?_eq_getElem (by omega)⟩
    obtain ⟨b1, o1, E1, F1, hok1⟩ := FSl.elt hx hx1
    have hok1_kind := hok1.kind
    have hok1_start := hok1.start
    refine rIxE E1 rfl rfl rfl ?_
    refine rLdA (H.fat F1) 0 rfl rfl rfl ?_
    refine rAllocS H rfl ?_
    clear H
    intro p1 w2 H
    clear w_
    refine rStAS H 0 rfl rfl rfl rfl ?_
    clear H
    intro w3 H
    clear w2
    refine rFieldAt rfl ?_
    refine rLd (H.at 1 rfl) 0 rfl rfl rfl ?_
    refine cI (fun c3 => ?_) (fun c3 => ?_)
    · replace c3 := vNe_t (c3)
      refine Done.mk ?_
      refine ⟨d, ?_⟩
      refine ⟨?_, ?_⟩
      · exact ex2 (by omega) hb
      refine H.fronts [2, 2] ?_
      clear H
      intro H
      refine H.drop 2 ?_
      clear H
      intro H
      exact H
    replace c3 := vNe_f (c3)
    refine rLdA (H.at 0 rfl) 0 rfl rfl rfl ?_
    refine H.fronts [2, 2] ?_
    clear H
    intro H
    refine CallP.mk (Fc.imp (Go.Proofs.YtcpniokopahakaaDoor.Bin.glo1 H _ ?_) ?_)
    · assumption
    clear H
    rintro va' w2 ⟨c4, ⟨h2, H⟩⟩
    refine eqI64 (by omega) ?_
    refine Nxt.mk ((i + 1, c4)) (mt_i rfl (by first | omega | (simp only; omega) | (simp; omega)) (mt_nil)) ?_ ?_
    · refine ⟨?_, ?_⟩
      · omega
      refine ⟨?_, ?_⟩
      · exact ex3 hx1 (by assumption) hb
      refine H.drop 2 ?_
      clear H
      intro H
      exact H
    omega
  replace c2 := vLt_f (c2)
  refine Done.mk ?_
  refine ⟨d, ?_⟩
  refine ⟨?_, ?_⟩
  · exact ex1 (by omega) hb
  exact H

theorem shown (H : Sat g w (Pt pc [.int .i64 b] 155 :: l)) (hT : U8F g) (x : List UInt8 × Int) (hx : okIm x) : Fc Tryd.prog 99 #[.pointer (some ⟨pc, 0, none⟩), .agg #[.string (bs x.1), .int .i64 x.2]] w (fun _ w' => ∃ c, FE b (impE x) c ∧ Sat g w' (Pt pc [.int .i64 c] 155 :: l)) := by
  refine Fc.of Tryd.func99 rfl (by kernel_rfl) ?_
  have hx_name := hx.name
  have hx_ty := hx.ty
  refine rBoxS H ?_
  clear H
  intro p1 w1 H
  refine rFieldAt rfl ?_
  refine rLd (H.at 0 rfl) 0 rfl rfl rfl ?_
  refine H.fronts [1] ?_
  clear H
  intro H
  refine CallP.mk (Fc.imp (Go.Proofs.YtcpniokopahakaaDoor.Bin.named H ?_ _ ?_) ?_)
  · assumption
  · assumption
  clear H
  rintro v' w2 ⟨c1, ⟨h1, H⟩⟩
  refine rFieldAt rfl ?_
  refine rLd (H.at 1 rfl) 1 rfl rfl rfl ?_
  refine CallP.mk (Fc.imp (Go.Proofs.YtcpniokopahakaaDoor.Bin.index H _) ?_)
  clear H
  rintro va' w3 ⟨c2, ⟨h2, H⟩⟩
  refine Done.mk ?_
  refine ⟨c2, ?_⟩
  refine ⟨?_, ?_⟩
  · exact FE.two (by assumption) (by assumption)
  refine H.drop 1 ?_
  clear H
  intro H
  exact H

theorem eachEx (H : Sat g w (Pt pc [.int .i64 b] 155 :: l)) (hT : U8F g) (m : Int) (v : Value) (xs : List (List UInt8 × Int)) (hx : FSl g enIm okIm 2 v xs) : Fc Tryd.prog 98 #[.pointer (some ⟨pc, 0, none⟩), v, .int .i64 m, .func (.func 99) #[.pointer (some ⟨pc, 0, none⟩)] #[]] w (fun _ w' => ∃ c, FE b (eachE m impE xs) c ∧ Sat g w' (Pt pc [.int .i64 c] 155 :: l)) := by
  refine Fc.of Tryd.func98 rfl (by kernel_rfl) ?_
  have hbd := SlR.len hx
  refine rLenF hx rfl ?_
  refine CallP.mk (Fc.imp (Go.Proofs.YtcpniokopahakaaDoor.Bin.need H _ _) ?_)
  clear H
  rintro v' w1 ⟨c1, ⟨h1, H⟩⟩
  refine rLenF hx rfl ?_
  refine LoopP.rule (α := Nat × Int) (0, c1) (fun x_ => [(18, .int .i64 x_.1)]) (fun x_ w_ => (x_.1 ≤ xs.length) ∧ (fst x_.2 (allE impE (xs.drop x_.1)) = fst b (eachE m impE xs)) ∧ Sat g w_ ((Pt pc [.int .i64 x_.2] 155 :: l))) (fun x_ => xs.length - x_.1) ?_ ?_ ?_
  · repeat first | exact mt_nil | refine mt_cons rfl ?_ | refine mt_i rfl (by first | omega | (simp only; omega) | (simp; omega) | (simp; done)) ?_
  · try simp only
    refine ⟨?_, ?_⟩
    · omega
    refine ⟨?_, ?_⟩
    · exact ex0 (by assumption)
    exact H
  clear H
  rintro ⟨i, d⟩ f_ w_ ⟨hi, hb, H⟩
  try simp only at hi hb H ⊢
  refine cI (fun c2 => ?_) (fun c2 => ?_)
  · replace c2 := vLt_t (c2)
    refine bk ?_
    obtain ⟨x1, hx1⟩ : ∃ x, (xs)[(i)]? = some x := ⟨_, List.getElem?_eq_getElem (by omega)⟩
    obtain ⟨b1, o1, E1, F1, hok1⟩ := FSl.elt hx hx1
    have hok1_name := hok1.name
    have hok1_ty := hok1.ty
    refine rIxE E1 rfl rfl rfl ?_
    refine rLdA (H.fat F1) 0 rfl rfl rfl ?_
    refine rAllocS H rfl ?_
    clear H
    intro p1 w2 H
    clear w_
    refine rStAS H 0 rfl rfl rfl rfl ?_
    clear H
    intro w3 H
    clear w2
    refine rFieldAt rfl ?_
    refine rLd (H.at 1 rfl) 0 rfl rfl rfl ?_
    refine cI (fun c3 => ?_) (fun c3 => ?_)
    · replace c3 := vNe_t (c3)
      refine Done.mk ?_
      refine ⟨d, ?_⟩
      refine ⟨?_, ?_⟩
      · exact ex2 (by omega) hb
      refine H.fronts [1] ?_
      clear H
      intro H
      refine H.drop 1 ?_
      clear H
      intro H
      exact H
    replace c3 := vNe_f (c3)
    refine rLdA (H.at 0 rfl) 0 rfl rfl rfl ?_
    refine H.fronts [1] ?_
    clear H
    intro H
    refine CallP.mk (Fc.imp (Go.Proofs.YtcpniokopahakaaDoor.Bin.shown H ?_ _ ?_) ?_)
    · assumption
    · assumption
    clear H
    rintro va' w2 ⟨c4, ⟨h2, H⟩⟩
    refine eqI64 (by omega) ?_
    refine Nxt.mk ((i + 1, c4)) (mt_i rfl (by first | omega | (simp only; omega) | (simp; omega)) (mt_nil)) ?_ ?_
    · refine ⟨?_, ?_⟩
      · omega
      refine ⟨?_, ?_⟩
      · exact ex3 hx1 (by assumption) hb
      refine H.drop 1 ?_
      clear H
      intro H
      exact H
    omega
  replace c2 := vLt_f (c2)
  refine Done.mk ?_
  refine ⟨d, ?_⟩
  refine ⟨?_, ?_⟩
  · exact ex1 (by omega) hb
  exact H

theorem elem (H : Sat g w (Pt pc [.int .i64 b] 155 :: l)) (x : ElV) (hx : okEl g x) : Fc Tryd.prog 101 #[.pointer (some ⟨pc, 0, none⟩), .agg #[.int .i64 x.pl, x.vf]] w (fun _ w' => ∃ c, FE b (elE x.d) c ∧ Sat g w' (Pt pc [.int .i64 c] 155 :: l)) := by
  refine Fc.of Tryd.func101 rfl (by kernel_rfl) ?_
  have hx_pl := hx.pl
  have hx_fs := hx.fs
  refine rBoxS H ?_
  clear H
  intro p1 w1 H
  refine rFieldAt rfl ?_
  refine rLd (H.at 0 rfl) 0 rfl rfl rfl ?_
  refine H.fronts [1] ?_
  clear H
  intro H
  refine CallP.mk (Fc.imp (Go.Proofs.YtcpniokopahakaaDoor.Bin.place H _ ?_) ?_)
  · assumption
  clear H
  rintro v' w2 ⟨c1, ⟨h1, H⟩⟩
  refine rFieldAt rfl ?_
  refine rLd (H.at 1 rfl) 1 rfl rfl rfl ?_
  refine CallP.mk (Fc.imp (Go.Proofs.YtcpniokopahakaaDoor.Bin.eachN H _ _ _ hx_fs) ?_)
  clear H
  rintro va' w3 ⟨c2, ⟨h2, H⟩⟩
  refine Done.mk ?_
  refine ⟨c2, ?_⟩
  refine ⟨?_, ?_⟩
  · exact FE.two (by assumption) (by assumption)
  refine H.drop 1 ?_
  clear H
  intro H
  exact H

theorem eachEl (H : Sat g w (Pt pc [.int .i64 b] 155 :: l)) (m : Int) (v : Value) (xs : List ElV) (hx : FSl g enEl (okEl g) 2 v xs) : Fc Tryd.prog 100 #[.pointer (some ⟨pc, 0, none⟩), v, .int .i64 m, .func (.func 101) #[.pointer (some ⟨pc, 0, none⟩)] #[]] w (fun _ w' => ∃ c, FE b (eachE m (fun x : ElV => elE x.d) xs) c ∧ Sat g w' (Pt pc [.int .i64 c] 155 :: l)) := by
  refine Fc.of Tryd.func100 rfl (by kernel_rfl) ?_
  have hbd := SlR.len hx
  refine rLenF hx rfl ?_
  refine CallP.mk (Fc.imp (Go.Proofs.YtcpniokopahakaaDoor.Bin.need H _ _) ?_)
  clear H
  rintro v' w1 ⟨c1, ⟨h1, H⟩⟩
  refine rLenF hx rfl ?_
  refine LoopP.rule (α := Nat × Int) (0, c1) (fun x_ => [(18, .int .i64 x_.1)]) (fun x_ w_ => (x_.1 ≤ xs.length) ∧ (fst x_.2 (allE (fun x : ElV => elE x.d) (xs.drop x_.1)) = fst b (eachE m (fun x : ElV => elE x.d) xs)) ∧ Sat g w_ ((Pt pc [.int .i64 x_.2] 155 :: l))) (fun x_ => xs.length - x_.1) ?_ ?_ ?_
  · repeat first | exact mt_nil | refine mt_cons rfl ?_ | refine mt_i rfl (by first | omega | (simp only; omega) | (simp; omega) | (simp; done)) ?_
  · try simp only
    refine ⟨?_, ?_⟩
    · omega
    refine ⟨?_, ?_⟩
    · exact ex0 (by assumption)
    exact H
  clear H
  rintro ⟨i, d⟩ f_ w_ ⟨hi, hb, H⟩
  try simp only at hi hb H ⊢
  refine cI (fun c2 => ?_) (fun c2 => ?_)
  · replace c2 := vLt_t (c2)
    refine bk ?_
    obtain ⟨x1, hx1⟩ : ∃ x, (xs)[(i)]? = some x := ⟨_, List.getElem?_eq_getElem (by omega)⟩
    obtain ⟨b1, o1, E1, F1, hok1⟩ := FSl.elt hx hx1
    have hok1_pl := hok1.pl
    have hok1_fs := hok1.fs
    refine rIxE E1 rfl rfl rfl ?_
    refine rLdA (H.fat F1) 0 rfl rfl rfl ?_
    refine rAllocS H rfl ?_
    clear H
    intro p1 w2 H
    clear w_
    refine rStAS H 0 rfl rfl rfl (by simp only [List.all_cons, List.all_nil, FSl.one hok1_fs, FSl.one hx]; rfl) ?_
    clear H
    intro w3 H
    clear w2
    refine rFieldAt rfl ?_
    refine rLd (H.at 1 rfl) 0 rfl rfl rfl ?_
    refine cI (fun c3 => ?_) (fun c3 => ?_)
    · replace c3 := vNe_t (c3)
      refine Done.mk ?_
      refine ⟨d, ?_⟩
      refine ⟨?_, ?_⟩
      · exact ex2 (by omega) hb
      refine H.fronts [1] ?_
      clear H
      intro H
      refine H.drop 1 ?_
      clear H
      intro H
      exact H
    replace c3 := vNe_f (c3)
    refine rLdA (H.at 0 rfl) 0 rfl rfl rfl ?_
    refine H.fronts [1] ?_
    clear H
    intro H
    refine CallP.mk (Fc.imp (Go.Proofs.YtcpniokopahakaaDoor.Bin.elem H _ ?_) ?_)
    · assumption
    clear H
    rintro va' w2 ⟨c4, ⟨h2, H⟩⟩
    refine eqI64 (by omega) ?_
    refine Nxt.mk ((i + 1, c4)) (mt_i rfl (by first | omega | (simp only; omega) | (simp; omega)) (mt_nil)) ?_ ?_
    · refine ⟨?_, ?_⟩
      · omega
      refine ⟨?_, ?_⟩
      · exact ex3 hx1 (by assumption) hb
      refine H.drop 1 ?_
      clear H
      intro H
      exact H
    omega
  replace c2 := vLt_f (c2)
  refine Done.mk ?_
  refine ⟨d, ?_⟩
  refine ⟨?_, ?_⟩
  · exact ex1 (by omega) hb
  exact H

theorem dat1 (H : Sat g w (Pt pc [.int .i64 b] 155 :: Pt q [.pointer (some ⟨pc, 0, none⟩)] 153 :: l)) (x : Int × List UInt8) (hx : okDt x) : Fc Tryd.prog 103 #[.agg #[.int .i64 x.1, .string (bs x.2)], .pointer (some ⟨q, 0, none⟩)] w (fun _ w' => ∃ c, FE b (datE x) c ∧ Sat g w' (Pt pc [.int .i64 c] 155 :: Pt q [.pointer (some ⟨pc, 0, none⟩)] 153 :: l)) := by
  refine Fc.of Tryd.func103 rfl (by kernel_rfl) ?_
  have hx_pl := hx.pl
  have hx_bytes := hx.bytes
  refine rBoxS H ?_
  clear H
  intro p1 w1 H
  refine rLd (H.at 2 rfl) 0 rfl rfl rfl ?_
  refine rFieldAt rfl ?_
  refine rLd (H.at 0 rfl) 0 rfl rfl rfl ?_
  refine H.fronts [1] ?_
  clear H
  intro H
  refine CallP.mk (Fc.imp (Go.Proofs.YtcpniokopahakaaDoor.Bin.place H _ ?_) ?_)
  · assumption
  clear H
  rintro v' w2 ⟨c1, ⟨h1, H⟩⟩
  refine rLd (H.at 2 rfl) 0 rfl rfl rfl ?_
  refine rFieldAt rfl ?_
  refine rLd (H.at 1 rfl) 1 rfl rfl rfl ?_
  refine rLenStr rfl ?_
  refine CallP.mk (Fc.imp (Go.Proofs.YtcpniokopahakaaDoor.Bin.need H _ _) ?_)
  clear H
  rintro va' w3 ⟨c2, ⟨h2, H⟩⟩
  refine Done.mk ?_
  refine ⟨c2, ?_⟩
  refine ⟨?_, ?_⟩
  · exact dt1 h1 (by assumption)
  refine H.fronts [2, 1] ?_
  clear H
  intro H
  refine H.drop 2 ?_
  clear H
  intro H
  exact H

theorem eachDt (H : Sat g w (Pt pc [.int .i64 b] 155 :: Pt q [.pointer (some ⟨pc, 0, none⟩)] 153 :: l)) (m : Int) (v : Value) (xs : List (Int × List UInt8)) (hx : FSl g enDt okDt 2 v xs) : Fc Tryd.prog 102 #[.pointer (some ⟨pc, 0, none⟩), v, .int .i64 m, .func (.func 103) #[] #[.pointer (some ⟨q, 0, none⟩)]] w (fun _ w' => ∃ c, FE b (eachE m datE xs) c ∧ Sat g w' (Pt pc [.int .i64 c] 155 :: Pt q [.pointer (some ⟨pc, 0, none⟩)] 153 :: l)) := by
  refine Fc.of Tryd.func102 rfl (by kernel_rfl) ?_
  have hbd := SlR.len hx
  refine rLenF hx rfl ?_
  refine CallP.mk (Fc.imp (Go.Proofs.YtcpniokopahakaaDoor.Bin.need H _ _) ?_)
  clear H
  rintro v' w1 ⟨c1, ⟨h1, H⟩⟩
  refine rLenF hx rfl ?_
  refine LoopP.rule (α := Nat × Int) (0, c1) (fun x_ => [(18, .int .i64 x_.1)]) (fun x_ w_ => (x_.1 ≤ xs.length) ∧ (fst x_.2 (allE datE (xs.drop x_.1)) = fst b (eachE m datE xs)) ∧ Sat g w_ ((Pt pc [.int .i64 x_.2] 155 :: Pt q [.pointer (some ⟨pc, 0, none⟩)] 153 :: l))) (fun x_ => xs.length - x_.1) ?_ ?_ ?_
  · repeat first | exact mt_nil | refine mt_cons rfl ?_ | refine mt_i rfl (by first | omega | (simp only; omega) | (simp; omega) | (simp; done)) ?_
  · try simp only
    refine ⟨?_, ?_⟩
    · omega
    refine ⟨?_, ?_⟩
    · exact ex0 (by assumption)
    exact H
  clear H
  rintro ⟨i, d⟩ f_ w_ ⟨hi, hb, H⟩
  try simp only at hi hb H ⊢
  refine cI (fun c2 => ?_) (fun c2 => ?_)
  · replace c2 := vLt_t (c2)
    refine bk ?_
    obtain ⟨x1, hx1⟩ : ∃ x, (xs)[(i)]? = some x := ⟨_, List.getElem?_eq_getElem (by omega)⟩
    obtain ⟨b1, o1, E1, F1, hok1⟩ := FSl.elt hx hx1
    have hok1_pl := hok1.pl
    have hok1_bytes := hok1.bytes
    refine rIxE E1 rfl rfl rfl ?_
    refine rLdA (H.fat F1) 0 rfl rfl rfl ?_
    refine rAllocS H rfl ?_
    clear H
    intro p1 w2 H
    clear w_
    refine rStAS H 0 rfl rfl rfl rfl ?_
    clear H
    intro w3 H
    clear w2
    refine rFieldAt rfl ?_
    refine rLd (H.at 1 rfl) 0 rfl rfl rfl ?_
    refine cI (fun c3 => ?_) (fun c3 => ?_)
    · replace c3 := vNe_t (c3)
      refine Done.mk ?_
      refine ⟨d, ?_⟩
      refine ⟨?_, ?_⟩
      · exact ex2 (by omega) hb
      refine H.fronts [2, 2] ?_
      clear H
      intro H
      refine H.drop 2 ?_
      clear H
      intro H
      exact H
    replace c3 := vNe_f (c3)
    refine rLdA (H.at 0 rfl) 0 rfl rfl rfl ?_
    refine H.fronts [2, 2] ?_
    clear H
    intro H
    refine CallP.mk (Fc.imp (Go.Proofs.YtcpniokopahakaaDoor.Bin.dat1 H _ ?_) ?_)
    · assumption
    clear H
    rintro va' w2 ⟨c4, ⟨h2, H⟩⟩
    refine eqI64 (by omega) ?_
    refine Nxt.mk ((i + 1, c4)) (mt_i rfl (by first | omega | (simp only; omega) | (simp; omega)) (mt_nil)) ?_ ?_
    · refine ⟨?_, ?_⟩
      · omega
      refine ⟨?_, ?_⟩
      · exact ex3 hx1 (by assumption) hb
      refine H.drop 2 ?_
      clear H
      intro H
      exact H
    omega
  replace c2 := vLt_f (c2)
  refine Done.mk ?_
  refine ⟨d, ?_⟩
  refine ⟨?_, ?_⟩
  · exact ex1 (by omega) hb
  exact H

end
end Go.Proofs.YtcpniokopahakaaDoor.Bin
/- Package bin: Check. -/
set_option maxRecDepth 100000
set_option maxHeartbeats 4000000
set_option linter.unusedVariables false
set_option linter.unusedSimpArgs false
namespace Go.Proofs.YtcpniokopahakaaDoor.Bin
open Go Go.Proofs.YtcpniokopahakaaDoor.Eng Go.RowKit
open Ins Nest Leb
section
variable {g : Glob} {w : World} {l : List As}
theorem nd_ge {a : Int} : ndE (vLe 0 a) 1 = geE 0 a := by
  unfold ndE geE
  by_cases h : 0 ≤ a
  · rw [if_pos (by rw [vLe_iff]; simpa using h), if_pos h]
  · rw [if_neg (by rw [vLe_iff]; simpa using h), if_neg h]
theorem nd_pg {a m : Int} (h0 : 0 ≤ a) : ndE (vLe a m) 1 = pagE a m := by
  unfold ndE pagE
  by_cases h : a ≤ m
  · rw [if_pos (by rw [vLe_iff]; simpa using h), if_pos ⟨h0, h⟩]
  · rw [if_neg (by rw [vLe_iff]; simpa using h), if_neg (fun k => h k.2)]
theorem nd_pn {a m : Int} (h0 : a < 0) : ndE false 1 = pagE a m := by
  unfold ndE pagE
  rw [if_neg (by decide), if_neg (by omega)]
theorem chk_fin {m : ModV} {c1 c2 c3 c4 c5 c6 c7 c8 c9 c10 c11 c12 e4 e5 e6 e7 : Int} (h1 : FE 0 (eachE 16 (fun x => sigE x.d) m.types) c1) (h2 : FE c1 (eachE 16 impE m.imps) c2) (h3 : FE c2 (eachE 16 (fun x => funE x.d) m.funcs) c3)
    (h4 : FE c3 e4 c4) (h5 : FE c4 e5 c5) (h6 : FE c5 e6 c6) (h7 : FE c6 e7 c7) (h8 : FE c7 (eachE 8 gloE m.globals) c8) (h9 : FE c8 (eachE 8 impE m.exps) c9) (h10 : FE c9 (indexE m.start) c10)
    (h11 : FE c10 (eachE 4 (fun x => elE x.d) m.elems) c11) (h12 : FE c11 (eachE 4 datE m.data) c12) (k4 : e4 = geE 0 m.table) (k5 : e5 = leE m.table 16) (k6 : e6 = pagE m.pages m.most) (k7 : e7 = leE m.most 8) : c12 = chkM m.d := by
  subst k4 k5 k6 k7
  unfold FE at *
  subst h1 h2 h3 h4 h5 h6 h7 h8 h9 h10 h11 h12
  simp only [fst_assoc, fst_0]
  unfold chkM
  simp only [ModV.d, eachE_map]
theorem check (H : Sat g w l) (hT : U8F g) (m : ModV) (hm : okMd g m) : Fc Tryd.prog 27 #[.agg #[m.vt, m.vm, m.vf, .int .i64 m.table, .int .i64 m.pages, .int .i64 m.most, m.vg, m.vx, .int .i64 m.start, m.ve, m.vd]] w (fun v w' => (∃ e, v = .int .i64 e ∧ e = chkM m.d) ∧ Sat g w' l) := by
  refine Fc.of Tryd.func27 rfl (by kernel_rfl) ?_
  have hm_types := hm.types
  have hm_imps := hm.imps
  have hm_funcs := hm.funcs
  have hm_globals := hm.globals
  have hm_exps := hm.exps
  have hm_elems := hm.elems
  have hm_data := hm.data
  refine rBoxS H ?_
  clear H
  intro p1 w1 H
  refine rBuild rfl rfl rfl ?_
  refine rBoxS H ?_
  clear H
  intro p2 w2 H
  clear w1
  refine rAllocS H rfl ?_
  clear H
  intro p3 w1 H
  clear w2
  refine rStS H 0 rfl rfl rfl rfl ?_
  clear H
  intro w2 H
  clear w1
  refine rLd (H.at 0 rfl) 0 rfl rfl rfl ?_
  refine rFieldAt rfl ?_
  refine rLd (H.at 2 rfl) 0 rfl rfl rfl ?_
  refine rLd (H.at 0 rfl) 0 rfl rfl rfl ?_
  refine H.fronts [1] ?_
  clear H
  intro H
  refine CallP.mk (Fc.imp (Go.Proofs.YtcpniokopahakaaDoor.Bin.eachSg H _ _ _ hm_types) ?_)
  clear H
  rintro v' w1 ⟨c1, ⟨h1, H⟩⟩
  refine rLd (H.at 1 rfl) 0 rfl rfl rfl ?_
  refine rFieldAt rfl ?_
  refine rLd (H.at 2 rfl) 1 rfl rfl rfl ?_
  refine CallP.mk (Fc.imp (Go.Proofs.YtcpniokopahakaaDoor.Bin.eachIm H ?_ _ _ _ hm_imps) ?_)
  · assumption
  clear H
  rintro va' w3 ⟨c2, ⟨h2, H⟩⟩
  refine rLd (H.at 1 rfl) 0 rfl rfl rfl ?_
  refine rFieldAt rfl ?_
  refine rLd (H.at 2 rfl) 2 rfl rfl rfl ?_
  refine rLd (H.at 1 rfl) 0 rfl rfl rfl ?_
  refine CallP.mk (Fc.imp (Go.Proofs.YtcpniokopahakaaDoor.Bin.eachFn H _ _ _ hm_funcs) ?_)
  clear H
  rintro vb' w4 ⟨c3, ⟨h3, H⟩⟩
  refine rLd (H.at 1 rfl) 0 rfl rfl rfl ?_
  refine rFieldAt rfl ?_
  refine rLd (H.at 2 rfl) 3 rfl rfl rfl ?_
  refine CallP.mk (Fc.imp (Go.Proofs.YtcpniokopahakaaDoor.Bin.need H _ _) ?_)
  clear H
  rintro vc' w5 ⟨c4, ⟨h4, H⟩⟩
  refine rLd (H.at 1 rfl) 0 rfl rfl rfl ?_
  refine rFieldAt rfl ?_
  refine rLd (H.at 2 rfl) 3 rfl rfl rfl ?_
  refine CallP.mk (Fc.imp (Go.Proofs.YtcpniokopahakaaDoor.Bin.need H _ _) ?_)
  clear H
  rintro vd' w6 ⟨c5, ⟨h5, H⟩⟩
  refine rLd (H.at 1 rfl) 0 rfl rfl rfl ?_
  refine rFieldAt rfl ?_
  refine rLd (H.at 2 rfl) 4 rfl rfl rfl ?_
  refine br (fun c6 => ?_) (fun c6 => ?_)
  · replace c6 := vLe_t (c6)
    refine rFieldAt rfl ?_
    refine rLd (H.at 2 rfl) 4 rfl rfl rfl ?_
    refine rFieldAt rfl ?_
    refine rLd (H.at 2 rfl) 5 rfl rfl rfl ?_
    refine CallP.mk (Fc.imp (Go.Proofs.YtcpniokopahakaaDoor.Bin.need H _ _) ?_)
    clear H
    rintro ve' w7 ⟨c7, ⟨h6, H⟩⟩
    refine rLd (H.at 1 rfl) 0 rfl rfl rfl ?_
    refine rFieldAt rfl ?_
    refine rLd (H.at 2 rfl) 5 rfl rfl rfl ?_
    refine CallP.mk (Fc.imp (Go.Proofs.YtcpniokopahakaaDoor.Bin.need H _ _) ?_)
    clear H
    rintro vf' w8 ⟨c8, ⟨h7, H⟩⟩
    refine rLd (H.at 1 rfl) 0 rfl rfl rfl ?_
    refine rFieldAt rfl ?_
    refine rLd (H.at 2 rfl) 6 rfl rfl rfl ?_
    refine CallP.mk (Fc.imp (Go.Proofs.YtcpniokopahakaaDoor.Bin.eachGl H _ _ _ hm_globals) ?_)
    clear H
    rintro vg' w9 ⟨c9, ⟨h8, H⟩⟩
    refine rLd (H.at 1 rfl) 0 rfl rfl rfl ?_
    refine rFieldAt rfl ?_
    refine rLd (H.at 2 rfl) 7 rfl rfl rfl ?_
    refine rLd (H.at 1 rfl) 0 rfl rfl rfl ?_
    refine CallP.mk (Fc.imp (Go.Proofs.YtcpniokopahakaaDoor.Bin.eachEx H ?_ _ _ _ hm_exps) ?_)
    · assumption
    clear H
    rintro vh' w10 ⟨c10, ⟨h9, H⟩⟩
    refine rLd (H.at 1 rfl) 0 rfl rfl rfl ?_
    refine rFieldAt rfl ?_
    refine rLd (H.at 2 rfl) 8 rfl rfl rfl ?_
    refine CallP.mk (Fc.imp (Go.Proofs.YtcpniokopahakaaDoor.Bin.index H _) ?_)
    clear H
    rintro v' w11 ⟨c11, ⟨h10, H⟩⟩
    refine rLd (H.at 1 rfl) 0 rfl rfl rfl ?_
    refine rFieldAt rfl ?_
    refine rLd (H.at 2 rfl) 9 rfl rfl rfl ?_
    refine rLd (H.at 1 rfl) 0 rfl rfl rfl ?_
    refine CallP.mk (Fc.imp (Go.Proofs.YtcpniokopahakaaDoor.Bin.eachEl H _ _ _ hm_elems) ?_)
    clear H
    rintro v' w12 ⟨c12, ⟨h11, H⟩⟩
    refine rLd (H.at 1 rfl) 0 rfl rfl rfl ?_
    refine rFieldAt rfl ?_
    refine rLd (H.at 2 rfl) 10 rfl rfl rfl ?_
    refine CallP.mk (Fc.imp (Go.Proofs.YtcpniokopahakaaDoor.Bin.eachDt H _ _ _ hm_data) ?_)
    clear H
    rintro v' w13 ⟨c13, ⟨h12, H⟩⟩
    refine rLd (H.at 1 rfl) 0 rfl rfl rfl ?_
    refine rFieldAt rfl ?_
    refine rLd (H.at 0 rfl) 0 rfl rfl rfl ?_
    refine Done.mk ?_
    refine ⟨?_, ?_⟩
    · refine ⟨c13, ?_⟩
      refine ⟨?_, ?_⟩
      · refine int_eq ?_
        omega
      exact chk_fin h1 h2 h3 h4 h5 h6 h7 h8 h9 h10 h11 h12 nd_ge nd_le (nd_pg (by omega)) nd_le
    refine H.drop 2 ?_
    clear H
    intro H
    refine H.drop 1 ?_
    clear H
    intro H
    refine H.drop 0 ?_
    clear H
    intro H
    exact H
  replace c6 := vLe_f (c6)
  refine CallP.mk (Fc.imp (Go.Proofs.YtcpniokopahakaaDoor.Bin.need H _ _) ?_)
  clear H
  rintro ve' w7 ⟨c7, ⟨h6, H⟩⟩
  refine rLd (H.at 1 rfl) 0 rfl rfl rfl ?_
  refine rFieldAt rfl ?_
  refine rLd (H.at 2 rfl) 5 rfl rfl rfl ?_
  refine CallP.mk (Fc.imp (Go.Proofs.YtcpniokopahakaaDoor.Bin.need H _ _) ?_)
  clear H
  rintro vf' w8 ⟨c8, ⟨h7, H⟩⟩
  refine rLd (H.at 1 rfl) 0 rfl rfl rfl ?_
  refine rFieldAt rfl ?_
  refine rLd (H.at 2 rfl) 6 rfl rfl rfl ?_
  refine CallP.mk (Fc.imp (Go.Proofs.YtcpniokopahakaaDoor.Bin.eachGl H _ _ _ hm_globals) ?_)
  clear H
  rintro vg' w9 ⟨c9, ⟨h8, H⟩⟩
  refine rLd (H.at 1 rfl) 0 rfl rfl rfl ?_
  refine rFieldAt rfl ?_
  refine rLd (H.at 2 rfl) 7 rfl rfl rfl ?_
  refine rLd (H.at 1 rfl) 0 rfl rfl rfl ?_
  refine CallP.mk (Fc.imp (Go.Proofs.YtcpniokopahakaaDoor.Bin.eachEx H ?_ _ _ _ hm_exps) ?_)
  · assumption
  clear H
  rintro vh' w10 ⟨c10, ⟨h9, H⟩⟩
  refine rLd (H.at 1 rfl) 0 rfl rfl rfl ?_
  refine rFieldAt rfl ?_
  refine rLd (H.at 2 rfl) 8 rfl rfl rfl ?_
  refine CallP.mk (Fc.imp (Go.Proofs.YtcpniokopahakaaDoor.Bin.index H _) ?_)
  clear H
  rintro v' w11 ⟨c11, ⟨h10, H⟩⟩
  refine rLd (H.at 1 rfl) 0 rfl rfl rfl ?_
  refine rFieldAt rfl ?_
  refine rLd (H.at 2 rfl) 9 rfl rfl rfl ?_
  refine rLd (H.at 1 rfl) 0 rfl rfl rfl ?_
  refine CallP.mk (Fc.imp (Go.Proofs.YtcpniokopahakaaDoor.Bin.eachEl H _ _ _ hm_elems) ?_)
  clear H
  rintro v' w12 ⟨c12, ⟨h11, H⟩⟩
  refine rLd (H.at 1 rfl) 0 rfl rfl rfl ?_
  refine rFieldAt rfl ?_
  refine rLd (H.at 2 rfl) 10 rfl rfl rfl ?_
  refine CallP.mk (Fc.imp (Go.Proofs.YtcpniokopahakaaDoor.Bin.eachDt H _ _ _ hm_data) ?_)
  clear H
  rintro v' w13 ⟨c13, ⟨h12, H⟩⟩
  refine rLd (H.at 1 rfl) 0 rfl rfl rfl ?_
  refine rFieldAt rfl ?_
  refine rLd (H.at 0 rfl) 0 rfl rfl rfl ?_
  refine Done.mk ?_
  refine ⟨?_, ?_⟩
  · refine ⟨c13, ?_⟩
    refine ⟨?_, ?_⟩
    · refine int_eq ?_
      omega
    exact chk_fin h1 h2 h3 h4 h5 h6 h7 h8 h9 h10 h11 h12 nd_ge nd_le (nd_pn (by omega)) nd_le
  refine H.drop 2 ?_
  clear H
  intro H
  refine H.drop 1 ?_
  clear H
  intro H
  refine H.drop 0 ?_
  clear H
  intro H
  exact H
end
end Go.Proofs.YtcpniokopahakaaDoor.Bin
/- Package valid: what is checked, in plain words. -/
set_option maxRecDepth 100000
set_option maxHeartbeats 4000000
set_option linter.unusedVariables false
set_option linter.unusedSimpArgs false
namespace Go.Proofs.YtcpniokopahakaaDoor.Valid
open Go Go.Proofs.YtcpniokopahakaaDoor.Eng Go.RowKit
open Ins Nest Leb Bin
/-- What of a module the bodies' check looks at. -/
structure VEnv where
  types : List SigD
  imps : List Int
  funs : List Int
  globals : List (Int × Bool × Int)
  table : Int
  most : Int
def envOf (m : ModD) : VEnv := ⟨m.types, m.imps.map (·.2), m.funcs.map (·.ty), m.globals, m.table, m.most⟩
/-- The number of a function's type. -/
def typI (E : VEnv) (n : Int) : Option Int := if n < 0 then none else if n < E.imps.length then E.imps[n.toNat]? else E.funs[n.toNat - E.imps.length]?
def typS (E : VEnv) (n : Int) : Option SigD := (typI E n).bind fun k => E.types[k.toNat]?
structure PartD where
  op : Int
  kind : Int
  base : Nat
  dead : Bool
  under : Bool
def pz : PartD := ⟨0, 0, 0, false, false⟩
structure Ck where
  stack : List Int
  opn : List PartD
  bad : Int
def failS (c : Ck) (e : Int) : Ck := if c.bad = 0 then { c with bad := e } else c
def pushS (c : Ck) (k : Int) : Ck := if k ≠ 64 then { c with stack := c.stack ++ [k] } else c
def topS (c : Ck) : PartD := c.opn.getD (c.opn.length - 1) pz
def popS (c : Ck) (want : Int) : Ck × Int :=
  if want = 64 then (c, 64)
  else if c.stack.length = (topS c).base then (if (topS c).dead = true then c else failS c 10, want)
  else
    let k := c.stack.getD (c.stack.length - 1) 0
    let c1 : Ck := { c with stack := c.stack.take (c.stack.length - 1) }
    if k = 0 then (c1, want) else if want ≠ 0 ∧ k ≠ want then (failS c1 10, k) else (c1, k)
def takesS (c : Ck) : List Int → Ck
  | [] => c
  | k :: r => (popS (takesS c r) k).1
def givesS (c : Ck) : List Int → Ck
  | [] => c
  | k :: r => givesS (pushS c k) r
def dieS (c : Ck) : Ck := { c with stack := c.stack.take (topS c).base, opn := c.opn.set (c.opn.length - 1) { topS c with dead := true } }
def outS (c : Ck) (n : Int) : Ck × PartD := if c.opn.length ≤ n then (failS c 8, pz) else (c, c.opn.getD (c.opn.length - 1 - n.toNat) pz)
def alongS (p : PartD) : Int := if p.op = 3 then 64 else p.kind
def underS (c : Ck) : Bool := if c.opn = [] then false else (topS c).dead || (topS c).under
def beginS (c : Ck) (op kind : Int) : Ck := { c with opn := c.opn ++ [⟨op, kind, c.stack.length, false, underS c⟩] }
def closeS (c : Ck) : Ck := if (popS c (topS c).kind).1.stack.length ≠ (topS c).base then failS (popS c (topS c).kind).1 10 else (popS c (topS c).kind).1
def wayS (c : Ck) (a : Int) : Ck := if (outS c a).1.bad = 0 then (popS (outS c a).1 (alongS (outS c a).2)).1 else (outS c a).1
/-- The ways of a table, one by one. -/
def waysS (k : Int) : List Int → Ck × Bool → Ck × Bool
  | [], s => s
  | n :: r, s => waysS k r ((outS s.1 n).1, decide (alongS (outS s.1 n).2 = k) && s.2)
def tableS (c : Ck) (a : Int) (tt : List Int) : Ck :=
  let k := alongS (outS c a).2
  let s := waysS k tt ((outS c a).1, true)
  if s.1.bad ≠ 0 then s.1 else (popS (popS (if s.2 = true then s.1 else failS s.1 10) 127).1 k).1
def elseS (c : Ck) : Ck :=
  let p := topS c
  let c1 := closeS c
  if c1.bad = 0 then { c1 with opn := c1.opn.take (c1.opn.length - 1) ++ [⟨5, p.kind, p.base, false, p.under⟩] } else c1
def endS (c : Ck) : Ck :=
  let p := topS c
  let c1 := closeS c
  let c2 := if p.op = 4 ∧ p.kind ≠ 64 then failS c1 10 else c1
  if c2.bad = 0 then pushS { c2 with opn := c2.opn.take (c2.opn.length - 1) } p.kind else c2
def brifS (c : Ck) (a : Int) : Ck :=
  let k := alongS (outS c a).2
  let c1 := (outS c a).1
  if c1.bad = 0 then pushS (popS (popS c1 127).1 k).1 k else c1
def controlS (c : Ck) (x : InsD) : Ck :=
  if x.op = 0 then dieS c
  else if x.op = 2 ∨ x.op = 3 then beginS c x.op x.a
  else if x.op = 4 then beginS (popS c 127).1 x.op x.a
  else if x.op = 5 then elseS c
  else if x.op = 11 then endS c
  else if x.op = 12 then dieS (wayS c x.a)
  else if x.op = 13 then brifS c x.a
  else if x.op = 15 then dieS (popS c (c.opn.getD 0 pz).kind).1
  else if x.op = 14 then dieS (tableS c x.a x.to)
  else c
def callS (E : VEnv) (c : Ck) (x : InsD) : Ck :=
  if x.op = 16 then
    match typS E x.a with
    | none => failS c 8
    | some t => givesS (takesS c t.inn) t.out
  else if E.table = 0 ∨ (E.types.length : Int) ≤ x.a then failS c 8
  else
    let t := E.types.getD x.a.toNat ⟨[], []⟩
    givesS (takesS (popS c 127).1 t.inn) t.out
def chooseS (c : Ck) : Ck :=
  let s := popS (popS c 127).1 0
  let u := popS s.1 s.2
  pushS u.1 u.2
def valueS (E : VEnv) (L : List Int) (c : Ck) (x : InsD) : Ck :=
  if x.op < 35 then
    if (L.length : Int) ≤ x.a then failS c 8
    else
      let k := L.getD x.a.toNat 0
      let c1 := if x.op ≠ 32 then (popS c k).1 else c
      if x.op ≠ 33 then pushS c1 k else c1
  else if (E.globals.length : Int) ≤ x.a then failS c 8
  else
    let g := E.globals.getD x.a.toNat (0, false, 0)
    if x.op = 35 then pushS c g.1
    else (popS (if g.2.1 = true then c else failS c 10) g.1).1
/-- What a plain instruction takes and gives. -/
def kindAt (o : Int) : Int := if o = 40 ∨ o = 44 ∨ o = 45 ∨ o = 46 ∨ o = 47 ∨ o = 54 ∨ o = 58 ∨ o = 59 then 127 else 126
def plnS (o : Int) : List Int × List Int × Bool :=
  if (numS o).2.2 = true then ((numS o).1, [(numS o).2.1], true)
  else if 0 < wid o ∧ o < 54 then ([127], [kindAt o], true)
  else if 0 < wid o then ([127, kindAt o], [], true)
  else if o = 63 then ([], [127], true)
  else if o = 64 then ([127], [127], true)
  else if o = 65 then ([], [127], true)
  else if o = 66 then ([], [126], true)
  else ([], [], false)
def shw (a : Int) : Int := if a = 0 then 1 else if a = 1 then 2 else if a = 2 then 4 else 8
def plainS (E : VEnv) (c : Ck) (x : InsD) : Ck :=
  if E.most = 0 ∧ (0 < wid x.op ∨ x.op = 63 ∨ x.op = 64) then failS c 8
  else if 0 < wid x.op ∧ (3 < x.a ∨ wid x.op < shw x.a) then failS c 9
  else givesS (takesS c (plnS x.op).1) (plnS x.op).2.1
def oneS (E : VEnv) (L : List Int) (c : Ck) (x : InsD) : Ck :=
  if x.op = 1 then c
  else if x.op ≤ 15 then controlS c x
  else if x.op ≤ 17 then callS E c x
  else if x.op = 26 then (popS c 0).1
  else if x.op = 27 then chooseS c
  else if x.op ≤ 36 then valueS E L c x
  else plainS E c x
def runS (E : VEnv) (L : List Int) : List InsD → Ck → Ck
  | [], c => c
  | x :: r, c => if (oneS E L c x).bad ≠ 0 then oneS E L c x else runS E L r (oneS E L c x)
def startS (t : SigD) : Ck := beginS ⟨[], [], 0⟩ 2 (t.out.getD 0 64)
def bodyE (E : VEnv) (f : FunD) : Int := (runS E ((E.types.getD f.ty.toNat ⟨[], []⟩).inn ++ f.loc) f.body (startS (E.types.getD f.ty.toNat ⟨[], []⟩))).bad
end Go.Proofs.YtcpniokopahakaaDoor.Valid
/- Which rule applies where; what optimizing comes to. -/
set_option maxRecDepth 100000
set_option maxHeartbeats 4000000
set_option linter.unusedVariables false
set_option linter.unusedSimpArgs false
namespace Go.Proofs.YtcpniokopahakaaDoor.Fold
open Go Go.RowKit Go.Proofs.YtcpniokopahakaaDoor.Eng
open Go.Proofs.YtcpniokopahakaaDoor.Leb Go.Proofs.YtcpniokopahakaaDoor.Txt Go.Proofs.YtcpniokopahakaaDoor.Ins Go.Proofs.YtcpniokopahakaaDoor.Nest Go.Proofs.YtcpniokopahakaaDoor.Valid
def i0 (ls : List InsD) : InsD := ls.getD 0 nz
def i1 (ls : List InsD) : InsD := ls.getD 1 nz
def i2 (ls : List InsD) : InsD := ls.getD 2 nz
def plnOk (o k : Int) : Prop := (plnS o).2.2 = true ∧ (plnS o).1.getD 0 0 = k
def kOf (x : InsD) : Int := if x.op = 65 then 127 else 126
/-- The rules, in their order. -/
def App : Nat → List InsD → Prop
  | 0, ls => (i0 ls).op = 1
  | 1, ls => 2 ≤ ls.length ∧ IsC (i0 ls) ∧ oneOk (i1 ls).op ∧ plnOk (i1 ls).op (kOf (i0 ls))
  | 2, ls => 3 ≤ ls.length ∧ IsC (i0 ls) ∧ (i1 ls).op = (i0 ls).op ∧ (Num.twoS (i2 ls).op (i0 ls).a (i1 ls).a).2 = 0 ∧ plnOk (i2 ls).op (kOf (i0 ls))
  | 3, ls => (IsC (i0 ls) ∨ (i0 ls).op = 32 ∨ (i0 ls).op = 35) ∧ 2 ≤ ls.length ∧ (i1 ls).op = 26
  | 4, ls => 2 ≤ ls.length ∧ (i0 ls).op = 65 ∧ (i1 ls).op = 13
  | 5, ls => ((i0 ls).op = 12 ∨ (i0 ls).op = 14 ∨ (i0 ls).op = 15 ∨ (i0 ls).op = 0) ∧ (i1 ls).op ≠ 11 ∧ (i1 ls).op ≠ 5
  | 6, ls => (i0 ls).op = 33 ∧ (i1 ls).op = 32 ∧ (i0 ls).a = (i1 ls).a
  | 7, ls => 2 ≤ ls.length ∧ (i0 ls).op = 65 ∧ (i1 ls).op = 4
  | 8, ls => ((i0 ls).op = 2 ∨ (i0 ls).op = 3) ∧ (i0 ls).a = 64 ∧ (i1 ls).op = 11
  | 9, ls => (i0 ls).op = 34 ∧ (i1 ls).op = 26
  | 10, ls => (i0 ls).op = 65 ∧ (i0 ls).a ≠ 0 ∧ 2 ≤ ls.length ∧ (i1 ls).op = 27
  | _, _ => False
structure RuleR (k : Nat) (ls : List InsD) (gone : Nat) (new : List InsD) (b : Bool) : Prop where
  app : b = true ↔ App k ls
  tn : b = true → Tn CK ls gone new
/-- No rule applies anywhere. -/
def NoRule (l : List InsD) : Prop := ∀ i, i < l.length → ∀ k, k < 11 → ¬ App k (l.drop i)
/-- A body and what has become of it so far. -/
structure Sofar (a b : List InsD) : Prop where
  chk : chkB b = 0
  len : b.length ≤ a.length
  hi : hi b 0 0 ≤ hi a 0 0
  cn : cn b ≤ cn a
theorem Sofar.zero {a : List InsD} (h : chkB a = 0) : Sofar a a := ⟨h, Nat.le_refl _, Int.le_refl _, Nat.le_refl _⟩
theorem run_pre : ∀ (p q : List InsD) (s : List Int), run (p ++ q) s = some [] → q ≠ [] → ∃ z t, run p s = some (z :: t) ∧ run q (z :: t) = some [] := by
  intro p q s h hq
  rw [run_app] at h
  obtain ⟨t, h1, h2⟩ := Option.bind_eq_some_iff.1 h
  cases t with
  | nil =>
    cases q with
    | nil => exact absurd rfl hq
    | cons x q => rw [run] at h2; cases h2
  | cons z t => exact ⟨z, t, h1, h2⟩
theorem hi_ge : ∀ (p : List InsD) (o m : Int), o ≤ m → o + net p ≤ hi p o m
  | [], o, m, h => by simp [net, hi]; exact h
  | x :: p, o, m, h => by
    rw [net, hi]
    have := hi_ge p (o + dd x) (max m (o + dd x)) (by omega)
    omega
/-- One turn. -/
theorem Sofar.turn {a b new : List InsD} {i gone : Nat} (S : Sofar a b) (hi' : i < b.length) (h : Tn CK (b.drop i) gone new) : Sofar a (b.take i ++ new ++ (b.drop i).drop gone) ∧ (b.take i ++ new ++ (b.drop i).drop gone).length < b.length ∧ i + gone ≤ b.length := by
  obtain ⟨hl, hr⟩ := chk_iff.1 S.chk
  have e : b = b.take i ++ b.drop i := (List.take_append_drop i b).symm
  have hne : b.drop i ≠ [] := fun e => by
    have := congrArg List.length e
    simp at this; omega
  rw [e] at hr
  obtain ⟨z, t, h1, h2⟩ := run_pre _ _ _ hr hne
  obtain ⟨hg, B⟩ := h.bet h2
  rw [List.append_assoc]
  have hlen : (b.take i ++ (new ++ (b.drop i).drop gone)).length < b.length := by
    have h3 := B.len
    rw [List.length_append]
    rw [List.length_drop] at h3
    rw [List.length_take]
    omega
  rw [List.length_drop] at hg
  refine ⟨⟨chk_iff.2 ⟨by omega, ?_⟩, by have := S.len; omega, ?_, ?_⟩, hlen, by omega⟩
  · rw [run_app, h1]; exact B.run
  · have h5 : Fold.hi b 0 0 =Fold.hi (b.take i ++ b.drop i) 0 0 := by rw [List.take_append_drop]
    rw [hi_app (b.take i) (b.drop i)] at h5
    have h6 := B.hi (0 + net (b.take i)) ( Fold.hi (b.take i) 0 0) (hi_ge _ _ _ (Int.le_refl _))
    rw [hi_app (b.take i) (new ++ (b.drop i).drop gone)]
    have h7 := S.hi
    rw [h5] at h7
    exact Int.le_trans h6 h7
  · have h5 : Fold.cn b = Fold.cn (b.take i ++ b.drop i) := by rw [List.take_append_drop]
    rw [cn_app (b.take i) (b.drop i)] at h5
    have h6 := B.cn
    have h7 := S.cn
    rw [cn_app (b.take i) (new ++ (b.drop i).drop gone)]
    omega
theorem no_nop {l : List InsD} (h : NoRule l) : ∀ x ∈ l, x.op ≠ 1 := by
  intro x hx h1
  obtain ⟨i, hi, rfl⟩ := List.mem_iff_getElem.1 hx
  refine h i hi 0 (by decide) ?_
  show (i0 (l.drop i)).op = 1
  unfold i0
  rw [List.getD_eq_getElem?_getD, List.getElem?_drop, Nat.add_zero, List.getElem?_eq_getElem hi]; exact h1
/-- What lies behind an instruction that is no end. -/
theorem two_of {x : InsD} {r : List InsD} {z : Int} {s : List Int} (h : run (x :: r) (z :: s) = some []) (h11 : x.op ≠ 11) : r ≠ [] := by
  intro e
  subst e
  obtain ⟨t, h1, h2⟩ := run_cons h
  have h2 : t = [] := Option.some.inj h2
  subst h2
  obtain ⟨_, z', r', e, hw⟩ := stp_some h1
  rcases hw with ⟨_, _, hw⟩ | ⟨_, _, hw⟩ | ⟨hw, _⟩ | ⟨_, hw⟩
  · cases hw
  · cases hw
  · exact h11 hw
  · cases hw
end Go.Proofs.YtcpniokopahakaaDoor.Fold
/- Package fold: the small functions and the simple rules. -/
set_option maxRecDepth 100000
set_option maxHeartbeats 4000000
set_option linter.unusedVariables false
set_option linter.unusedSimpArgs false
namespace Go.Proofs.YtcpniokopahakaaDoor.Fold
open Go Go.Proofs.YtcpniokopahakaaDoor.Eng Go.RowKit
open Ins Nest Leb Bin Valid
theorem i0_map {xs : List InsV} {x : InsV} (h : xs[0]? = some x) : i0 (xs.map InsV.d) = x.d := by
  unfold i0; rw [List.getD_eq_getElem?_getD, List.getElem?_map, h]; rfl
theorem i1_map {xs : List InsV} {x : InsV} (h : xs[1]? = some x) : i1 (xs.map InsV.d) = x.d := by
  unfold i1; rw [List.getD_eq_getElem?_getD, List.getElem?_map, h]; rfl
theorem i2_map {xs : List InsV} {x : InsV} (h : xs[2]? = some x) : i2 (xs.map InsV.d) = x.d := by
  unfold i2; rw [List.getD_eq_getElem?_getD, List.getElem?_map, h]; rfl
theorem shape1 {xs : List InsV} {x : InsV} (h : xs[0]? = some x) : xs.map InsV.d = x.d :: (xs.map InsV.d).drop 1 := by
  cases xs with
  | nil => cases h
  | cons a r => rw [show a = x from Option.some.inj h]; rfl
theorem shape2 {xs : List InsV} {x y : InsV} (h : xs[0]? = some x) (h1 : xs[1]? = some y) : xs.map InsV.d = x.d :: y.d :: (xs.map InsV.d).drop 2 := by
  match xs, h, h1 with
  | a :: b :: r, h, h1 => rw [show a = x from Option.some.inj h, show b = y from Option.some.inj h1]; rfl
theorem len2 {xs : List InsV} {x : InsV} {z : Int} {s : List Int} (hx0 : xs[0]? = some x) (hr : run (xs.map InsV.d) (z :: s) = some []) (h : x.op ≠ 11) : 2 ≤ xs.length := by
  match xs, hx0 with
  | [a], hx0 =>
    obtain rfl : a = x := Option.some.inj hx0
    exact absurd rfl (two_of hr h)
  | a :: b :: r, _ => simp
section
variable {g : Glob} {w : World} {l : List As}
theorem isConstX (H : Sat g w l) (x : InsV) (hx : okV g x) : Fc Tryd.prog 162 #[.agg #[.int .u8 x.op, .int .i64 x.a, .int .i64 x.b, x.tv]] w (fun r w' => ∃ b, r = .bool b ∧ (b = true ↔ (x.op = 65 ∨ x.op = 66)) ∧ Sat g w' l) := by
  refine Fc.of Tryd.func162 rfl (by kernel_rfl) ?_
  refine rBoxS H ?_
  clear H
  intro p1 w1 H
  refine rFieldAt rfl ?_
  refine rLd (H.at 0 rfl) 0 rfl rfl rfl ?_
  refine br (fun c1 => ?_) (fun c1 => ?_)
  · replace c1 := vEq_t (c1)
    refine Done.mk ?_
    refine ⟨true, ?_⟩
    refine ⟨?_, ?_⟩
    · exact congrArg Value.bool (rfl)
    refine ⟨?_, ?_⟩
    · (simp; omega)
    refine H.drop 0 ?_
    clear H
    intro H
    exact H
  replace c1 := vEq_f (c1)
  refine rFieldAt rfl ?_
  refine rLd (H.at 0 rfl) 0 rfl rfl rfl ?_
  refine Done.mk ?_
  refine ⟨vEq x.op 66, ?_⟩
  refine ⟨?_, ?_⟩
  · rfl
  refine ⟨?_, ?_⟩
  · (rw [vEq_iff, decide_eq_true_iff]; omega)
  refine H.drop 0 ?_
  clear H
  intro H
  exact H
theorem isNumberX (H : Sat g w l) (x : InsV) (hx : okV g x) : Fc Tryd.prog 168 #[.agg #[.int .u8 x.op, .int .i64 x.a, .int .i64 x.b, x.tv]] w (fun r w' => ∃ b, r = .bool b ∧ (b = true ↔ x.op = 65) ∧ Sat g w' l) := by
  refine Fc.of Tryd.func168 rfl (by kernel_rfl) ?_
  refine rBoxS H ?_
  clear H
  intro p1 w1 H
  refine rFieldAt rfl ?_
  refine rLd (H.at 0 rfl) 0 rfl rfl rfl ?_
  refine Done.mk ?_
  refine ⟨vEq x.op 65, ?_⟩
  refine ⟨?_, ?_⟩
  · rfl
  refine ⟨?_, ?_⟩
  · (simp [vEq_iff, vNe_iff, vLt_iff, vLe_iff]; done)
  refine H.drop 0 ?_
  clear H
  intro H
  exact H
theorem kindOfX (H : Sat g w l) (x : InsV) (hx : okV g x) : Fc Tryd.prog 165 #[.agg #[.int .u8 x.op, .int .i64 x.a, .int .i64 x.b, x.tv]] w (fun r w' => ∃ k, r = .int .u8 k ∧ k = kOf x.d ∧ Sat g w' l) := by
  refine Fc.of Tryd.func165 rfl (by kernel_rfl) ?_
  refine rBoxS H ?_
  clear H
  intro p1 w1 H
  refine rLdA (H.at 0 rfl) 0 rfl rfl rfl ?_
  refine CallP.mk (Fc.imp (Go.Proofs.YtcpniokopahakaaDoor.Fold.isNumberX H _ ?_) ?_)
  · assumption
  clear H
  rintro _ w2 ⟨b1, ⟨rfl, ⟨h1, H⟩⟩⟩
  refine cI (fun c1 => ?_) (fun c1 => ?_)
  · replace c1 := h1.1 (c1)
    refine Done.mk ?_
    refine ⟨127, ?_⟩
    refine ⟨?_, ?_⟩
    · refine int_eq ?_
      omega
    refine ⟨?_, ?_⟩
    · exact (if_pos (show x.d.op = 65 from by assumption)).symm
    refine H.drop 0 ?_
    clear H
    intro H
    exact H
  replace c1 := iff_f h1 (c1)
  refine Done.mk ?_
  refine ⟨126, ?_⟩
  refine ⟨?_, ?_⟩
  · refine int_eq ?_
    omega
  refine ⟨?_, ?_⟩
  · exact (if_neg (show ¬ x.d.op = 65 from by assumption)).symm
  refine H.drop 0 ?_
  clear H
  intro H
  exact H
theorem spn_step {l : List InsD} {i : Nat} {x : InsD} {d d2 : Int} {n : Nat} (h : n = i + spn d (l.drop i)) (hx : l[i]? = some x) (hd : d2 = d + dd x) (h0 : d2 ≠ 0) : n = (i + 1) + spn d2 (l.drop (i + 1)) := by
  have hh := List.getElem?_eq_some_iff.1 hx
  rw [h, List.drop_eq_getElem_cons hh.1, hh.2, spn, ← hd, if_neg h0]; omega
theorem spn_end {l : List InsD} {i : Nat} {x : InsD} {d d2 : Int} {n : Nat} (h : n = i + spn d (l.drop i)) (hx : l[i]? = some x) (hd : d2 = d + dd x) (h0 : d2 = 0) : (n : Int) = (i : Int) + 1 := by
  have hh := List.getElem?_eq_some_iff.1 hx
  rw [h, List.drop_eq_getElem_cons hh.1, hh.2, spn, ← hd, if_pos h0]; omega
theorem spn_all {l : List InsD} {i : Nat} {d : Int} {n : Nat} (h : n = i + spn d (l.drop i)) (hi : l.length ≤ i) : n = i := by
  rw [h, List.drop_of_length_le hi]; rfl
theorem spn_le : ∀ (d : Int) (l : List InsD), spn d l ≤ l.length
  | _, [] => Nat.le_refl _
  | d, x :: r => by
    rw [spn]
    split
    · simp
    · have := spn_le (d + dd x) r
      simp; omega
theorem oth_step {l : List InsD} {i : Nat} {x : InsD} {d d2 : Int} {n : Nat} (h : n = i + oth d (l.drop i)) (hx : l[i]? = some x) (hd : d2 = d + dd x) (h0 : ¬ ((x.op = 5 ∧ d = 1) ∨ (x.op = 11 ∧ d = 1))) : n = (i + 1) + oth d2 (l.drop (i + 1)) := by
  have hh := List.getElem?_eq_some_iff.1 hx
  rw [h, List.drop_eq_getElem_cons hh.1, hh.2, oth, if_neg h0, ← hd]; omega
theorem oth_end {l : List InsD} {i : Nat} {x : InsD} {d : Int} {n : Nat} (h : n = i + oth d (l.drop i)) (hx : l[i]? = some x) (h0 : (x.op = 5 ∧ d = 1) ∨ (x.op = 11 ∧ d = 1)) : n = i := by
  have hh := List.getElem?_eq_some_iff.1 hx
  rw [h, List.drop_eq_getElem_cons hh.1, hh.2, oth, if_pos h0]; rfl
theorem oth_all {l : List InsD} {i : Nat} {d : Int} {n : Nat} (h : n = i + oth d (l.drop i)) (hi : l.length ≤ i) : n = i := by
  rw [h, List.drop_of_length_le hi]; rfl
theorem dd_open {x : InsV} (h : x.op = 2 ∨ x.op = 3 ∨ x.op = 4) : dd x.d = 1 := if_pos h
theorem dd_end {x : InsV} (h : x.op = 11) : dd x.d = -1 := by
  have h : x.d.op = 11 := h
  unfold dd; rw [if_neg (by unfold Opn; omega), if_pos h]
theorem dd_no {x : InsV} (h2 : x.op ≠ 2) (h3 : x.op ≠ 3) (h4 : x.op ≠ 4) (h : x.op ≠ 11) : dd x.d = 0 := by
  have h : x.d.op ≠ 11 := h
  unfold dd; rw [if_neg (fun k => by unfold Opn at k; exact k.elim h2 fun k => k.elim h3 h4), if_neg h]
theorem spanX (H : Sat g w l) (v : Value) (xs : List InsV) (hx : FSl g enV (okV g) 4 v xs) (hl : xs.length ≤ 200) : Fc Tryd.prog 169 #[v] w (fun r w' => ∃ n : Nat, r = .int .i64 n ∧ n = spn 0 (xs.map InsV.d) ∧ n ≤ 200 ∧ Sat g w' l) := by
  obtain ⟨n, hn⟩ : ∃ n, n = spn 0 (xs.map InsV.d) := ⟨_, rfl⟩
  have hn2 : n ≤ xs.length := by rw [hn]; have := spn_le 0 (xs.map InsV.d); rw [List.length_map] at this; exact this
  rw [← hn]
  have hn0 : n = 0 + spn 0 ((xs.map InsV.d).drop 0) := by rw [hn]; simp
  refine Fc.of Tryd.func169 rfl (by kernel_rfl) ?_
  refine rLenF hx rfl ?_
  refine LoopP.rule (α := Nat × Int) (0, 0) (fun x_ => [(3, .int .i64 x_.2), (8, .int .i64 x_.1)]) (fun x_ w_ => (x_.1 ≤ xs.length) ∧ (x_.2 ≤ x_.1 ∧ -x_.1 ≤ x_.2) ∧ (n = x_.1 + spn x_.2 ((xs.map InsV.d).drop x_.1)) ∧ Sat g w_ (l)) (fun x_ => xs.length - x_.1) ?_ ?_ ?_
  · repeat first | exact mt_nil | refine mt_cons rfl ?_ | refine mt_i rfl (by first | omega | (simp only; omega) | (simp; omega) | (simp; done)) ?_
  · try simp only
    refine ⟨?_, ?_⟩
    · omega
    refine ⟨?_, ?_⟩
    · refine ⟨?_, ?_⟩
      · omega
      omega
    refine ⟨?_, ?_⟩
    · exact hn0
    exact H
  clear H
  rintro ⟨i, d⟩ f_ w_ ⟨hi, hd, hn, H⟩
  try simp only at hi hd hn H ⊢
  rcases Nat.lt_or_ge i xs.length with hlt | hge
  · obtain ⟨x, hxi⟩ : ∃ x, xs[i]? = some x := ⟨_, List.getElem?_eq_getElem hlt⟩
    have hxo := FSl.all hx x (List.mem_of_getElem? hxi)
    have hxd : (xs.map InsV.d)[i]? = some x.d := by rw [List.getElem?_map, hxi]; rfl
    refine cT (vLt_T (by omega)) ?_
    refine bk ?_
    obtain ⟨b1, o1, E1, F1, hok1⟩ := FSl.elt hx hxi
    have hok1_op := hok1.op
    have hok1_a := hok1.a
    have hok1_b := hok1.b
    have hok1_to := hok1.to
    refine rIxE E1 rfl rfl rfl ?_
    refine rLdA (H.fat F1) 0 rfl rfl rfl ?_
    refine rAllocS H rfl ?_
    clear H
    intro p1 w1 H
    clear w_
    refine rStAS H 0 rfl rfl rfl (by simp only [List.all_cons, List.all_nil, FSl.one hok1_to, FSl.one hx]; rfl) ?_
    clear H
    intro w2 H
    clear w1
    refine rFieldAt rfl ?_
    refine rLd (H.at 0 rfl) 0 rfl rfl rfl ?_
    refine bk ?_
    refine cI (fun c1 => ?_) (fun c1 => ?_)
    · replace c1 := vEq_t (c1)
      refine cT (vEq_T (by assumption)) ?_
      refine eqI64 (by omega) ?_
      refine cI (fun c2 => ?_) (fun c2 => ?_)
      · replace c2 := vEq_t (c2)
        refine eqI64 (by omega) ?_
        refine Done.mk ?_
        refine ⟨i + 1, ?_⟩
        refine ⟨?_, ?_⟩
        · refine int_eq ?_
          (have := spn_end (d2 := 0) hn hxd (by first | (rw [dd_open (by omega)]; omega) | (rw [dd_end (by omega)]; omega) | (rw [dd_no (by omega) (by omega) (by omega) (by omega)]; omega)) rfl; omega)
        refine ⟨?_, ?_⟩
        · (have := spn_end (d2 := 0) hn hxd (by first | (rw [dd_open (by omega)]; omega) | (rw [dd_end (by omega)]; omega) | (rw [dd_no (by omega) (by omega) (by omega) (by omega)]; omega)) rfl; omega)
        refine ⟨?_, ?_⟩
        · (have := spn_end (d2 := 0) hn hxd (by first | (rw [dd_open (by omega)]; omega) | (rw [dd_end (by omega)]; omega) | (rw [dd_no (by omega) (by omega) (by omega) (by omega)]; omega)) rfl; omega)
        refine H.drop 0 ?_
        clear H
        intro H
        exact H
      replace c2 := vEq_f (c2)
      refine eqI64 (by omega) ?_
      refine Nxt.mk ((i + 1, d + 1)) (mt_cons rfl (mt_i rfl (by first | omega | (simp only; omega) | (simp; omega)) (mt_nil))) ?_ ?_
      · refine ⟨?_, ?_⟩
        · assumption
        refine ⟨?_, ?_⟩
        · refine ⟨?_, ?_⟩
          · omega
          omega
        refine ⟨?_, ?_⟩
        · exact spn_step hn hxd (by first | rw [dd_open (by omega)] | (rw [dd_end (by omega)]; omega) | (rw [dd_no (by omega) (by omega) (by omega) (by omega)]; omega)) (by omega)
        refine H.drop 0 ?_
        clear H
        intro H
        exact H
      omega
    replace c1 := vEq_f (c1)
    refine cI (fun c2 => ?_) (fun c2 => ?_)
    · replace c2 := vEq_t (c2)
      refine cT (vEq_T (by assumption)) ?_
      refine eqI64 (by omega) ?_
      refine cI (fun c3 => ?_) (fun c3 => ?_)
      · replace c3 := vEq_t (c3)
        refine eqI64 (by omega) ?_
        refine Done.mk ?_
        refine ⟨i + 1, ?_⟩
        refine ⟨?_, ?_⟩
        · refine int_eq ?_
          (have := spn_end (d2 := 0) hn hxd (by first | (rw [dd_open (by omega)]; omega) | (rw [dd_end (by omega)]; omega) | (rw [dd_no (by omega) (by omega) (by omega) (by omega)]; omega)) rfl; omega)
        refine ⟨?_, ?_⟩
        · (have := spn_end (d2 := 0) hn hxd (by first | (rw [dd_open (by omega)]; omega) | (rw [dd_end (by omega)]; omega) | (rw [dd_no (by omega) (by omega) (by omega) (by omega)]; omega)) rfl; omega)
        refine ⟨?_, ?_⟩
        · (have := spn_end (d2 := 0) hn hxd (by first | (rw [dd_open (by omega)]; omega) | (rw [dd_end (by omega)]; omega) | (rw [dd_no (by omega) (by omega) (by omega) (by omega)]; omega)) rfl; omega)
        refine H.drop 0 ?_
        clear H
        intro H
        exact H
      replace c3 := vEq_f (c3)
      refine eqI64 (by omega) ?_
      refine Nxt.mk ((i + 1, d + 1)) (mt_cons rfl (mt_i rfl (by first | omega | (simp only; omega) | (simp; omega)) (mt_nil))) ?_ ?_
      · refine ⟨?_, ?_⟩
        · assumption
        refine ⟨?_, ?_⟩
        · refine ⟨?_, ?_⟩
          · omega
          omega
        refine ⟨?_, ?_⟩
        · exact spn_step hn hxd (by first | rw [dd_open (by omega)] | (rw [dd_end (by omega)]; omega) | (rw [dd_no (by omega) (by omega) (by omega) (by omega)]; omega)) (by omega)
        refine H.drop 0 ?_
        clear H
        intro H
        exact H
      omega
    replace c2 := vEq_f (c2)
    refine cI (fun c3 => ?_) (fun c3 => ?_)
    · replace c3 := vEq_t (c3)
      refine eqI64 (by omega) ?_
      refine cI (fun c4 => ?_) (fun c4 => ?_)
      · replace c4 := vEq_t (c4)
        refine eqI64 (by omega) ?_
        refine Done.mk ?_
        refine ⟨i + 1, ?_⟩
        refine ⟨?_, ?_⟩
        · refine int_eq ?_
          (have := spn_end (d2 := 0) hn hxd (by first | (rw [dd_open (by omega)]; omega) | (rw [dd_end (by omega)]; omega) | (rw [dd_no (by omega) (by omega) (by omega) (by omega)]; omega)) rfl; omega)
        refine ⟨?_, ?_⟩
        · (have := spn_end (d2 := 0) hn hxd (by first | (rw [dd_open (by omega)]; omega) | (rw [dd_end (by omega)]; omega) | (rw [dd_no (by omega) (by omega) (by omega) (by omega)]; omega)) rfl; omega)
        refine ⟨?_, ?_⟩
        · (have := spn_end (d2 := 0) hn hxd (by first | (rw [dd_open (by omega)]; omega) | (rw [dd_end (by omega)]; omega) | (rw [dd_no (by omega) (by omega) (by omega) (by omega)]; omega)) rfl; omega)
        refine H.drop 0 ?_
        clear H
        intro H
        exact H
      replace c4 := vEq_f (c4)
      refine eqI64 (by omega) ?_
      refine Nxt.mk ((i + 1, d + 1)) (mt_cons rfl (mt_i rfl (by first | omega | (simp only; omega) | (simp; omega)) (mt_nil))) ?_ ?_
      · refine ⟨?_, ?_⟩
        · assumption
        refine ⟨?_, ?_⟩
        · refine ⟨?_, ?_⟩
          · omega
          omega
        refine ⟨?_, ?_⟩
        · exact spn_step hn hxd (by first | rw [dd_open (by omega)] | (rw [dd_end (by omega)]; omega) | (rw [dd_no (by omega) (by omega) (by omega) (by omega)]; omega)) (by omega)
        refine H.drop 0 ?_
        clear H
        intro H
        exact H
      omega
    replace c3 := vEq_f (c3)
    refine cI (fun c4 => ?_) (fun c4 => ?_)
    · replace c4 := vEq_t (c4)
      refine eqI64 (by omega) ?_
      refine cI (fun c5 => ?_) (fun c5 => ?_)
      · replace c5 := vEq_t (c5)
        refine eqI64 (by omega) ?_
        refine Done.mk ?_
        refine ⟨i + 1, ?_⟩
        refine ⟨?_, ?_⟩
        · refine int_eq ?_
          (have := spn_end (d2 := 0) hn hxd (by first | (rw [dd_open (by omega)]; omega) | (rw [dd_end (by omega)]; omega) | (rw [dd_no (by omega) (by omega) (by omega) (by omega)]; omega)) rfl; omega)
        refine ⟨?_, ?_⟩
        · (have := spn_end (d2 := 0) hn hxd (by first | (rw [dd_open (by omega)]; omega) | (rw [dd_end (by omega)]; omega) | (rw [dd_no (by omega) (by omega) (by omega) (by omega)]; omega)) rfl; omega)
        refine ⟨?_, ?_⟩
        · (have := spn_end (d2 := 0) hn hxd (by first | (rw [dd_open (by omega)]; omega) | (rw [dd_end (by omega)]; omega) | (rw [dd_no (by omega) (by omega) (by omega) (by omega)]; omega)) rfl; omega)
        refine H.drop 0 ?_
        clear H
        intro H
        exact H
      replace c5 := vEq_f (c5)
      refine eqI64 (by omega) ?_
      refine Nxt.mk ((i + 1, d - 1)) (mt_cons rfl (mt_i rfl (by first | omega | (simp only; omega) | (simp; omega)) (mt_nil))) ?_ ?_
      · refine ⟨?_, ?_⟩
        · assumption
        refine ⟨?_, ?_⟩
        · refine ⟨?_, ?_⟩
          · omega
          omega
        refine ⟨?_, ?_⟩
        · exact spn_step hn hxd (by first | rw [dd_open (by omega)] | (rw [dd_end (by omega)]; omega) | (rw [dd_no (by omega) (by omega) (by omega) (by omega)]; omega)) (by omega)
        refine H.drop 0 ?_
        clear H
        intro H
        exact H
      omega
    replace c4 := vEq_f (c4)
    refine cI (fun c5 => ?_) (fun c5 => ?_)
    · replace c5 := vEq_t (c5)
      refine eqI64 (by omega) ?_
      refine Done.mk ?_
      refine ⟨i + 1, ?_⟩
      refine ⟨?_, ?_⟩
      · refine int_eq ?_
        (have := spn_end (d2 := 0) hn hxd (by first | (rw [dd_open (by omega)]; omega) | (rw [dd_end (by omega)]; omega) | (rw [dd_no (by omega) (by omega) (by omega) (by omega)]; omega)) rfl; omega)
      refine ⟨?_, ?_⟩
      · (have := spn_end (d2 := 0) hn hxd (by first | (rw [dd_open (by omega)]; omega) | (rw [dd_end (by omega)]; omega) | (rw [dd_no (by omega) (by omega) (by omega) (by omega)]; omega)) rfl; omega)
      refine ⟨?_, ?_⟩
      · (have := spn_end (d2 := 0) hn hxd (by first | (rw [dd_open (by omega)]; omega) | (rw [dd_end (by omega)]; omega) | (rw [dd_no (by omega) (by omega) (by omega) (by omega)]; omega)) rfl; omega)
      refine H.drop 0 ?_
      clear H
      intro H
      exact H
    replace c5 := vEq_f (c5)
    refine eqI64 (by omega) ?_
    refine Nxt.mk ((i + 1, d)) (mt_cons rfl (mt_i rfl (by first | omega | (simp only; omega) | (simp; omega)) (mt_nil))) ?_ ?_
    · refine ⟨?_, ?_⟩
      · assumption
      refine ⟨?_, ?_⟩
      · refine ⟨?_, ?_⟩
        · omega
        omega
      refine ⟨?_, ?_⟩
      · exact spn_step hn hxd (by first | rw [dd_open (by omega)] | (rw [dd_end (by omega)]; omega) | (rw [dd_no (by omega) (by omega) (by omega) (by omega)]; omega)) (by omega)
      refine H.drop 0 ?_
      clear H
      intro H
      exact H
    omega
  · refine cF (vLt_F (by (have := spn_all hn (by rw [List.length_map]; omega); omega))) ?_
    refine rLenF hx rfl ?_
    refine Done.mk ?_
    refine ⟨xs.length, ?_⟩
    refine ⟨?_, ?_⟩
    · refine int_eq ?_
      (have := spn_all hn (by rw [List.length_map]; omega); omega)
    refine ⟨?_, ?_⟩
    · (have := spn_all hn (by rw [List.length_map]; omega); omega)
    refine ⟨?_, ?_⟩
    · (have := spn_all hn (by rw [List.length_map]; omega); omega)
    (have := spn_all hn (by rw [List.length_map]; omega); omega)

theorem otherX (H : Sat g w l) (v : Value) (xs : List InsV) (hx : FSl g enV (okV g) 4 v xs) (hl : xs.length ≤ 200) (hp : 0 < xs.length) : Fc Tryd.prog 170 #[v] w (fun r w' => ∃ n : Nat, r = .int .i64 n ∧ n < xs.length ∧ (oth 0 (xs.map InsV.d) < xs.length → n = oth 0 (xs.map InsV.d)) ∧ Sat g w' l) := by
  obtain ⟨n, hn⟩ : ∃ n, n = oth 0 (xs.map InsV.d) := ⟨_, rfl⟩
  rw [← hn]
  have hn0 : n = 0 + oth 0 ((xs.map InsV.d).drop 0) := by rw [hn]; simp
  refine Fc.of Tryd.func170 rfl (by kernel_rfl) ?_
  refine rLenF hx rfl ?_
  refine LoopP.rule (α := Nat × Int) (0, 0) (fun x_ => [(3, .int .i64 x_.2), (8, .int .i64 x_.1)]) (fun x_ w_ => (x_.1 ≤ xs.length) ∧ (x_.2 ≤ x_.1 ∧ -x_.1 ≤ x_.2) ∧ (n = x_.1 + oth x_.2 ((xs.map InsV.d).drop x_.1)) ∧ Sat g w_ (l)) (fun x_ => xs.length - x_.1) ?_ ?_ ?_
  · repeat first | exact mt_nil | refine mt_cons rfl ?_ | refine mt_i rfl (by first | omega | (simp only; omega) | (simp; omega) | (simp; done)) ?_
  · try simp only
    refine ⟨?_, ?_⟩
    · omega
    refine ⟨?_, ?_⟩
    · refine ⟨?_, ?_⟩
      · omega
      omega
    refine ⟨?_, ?_⟩
    · exact hn0
    exact H
  clear H
  rintro ⟨i, d⟩ f_ w_ ⟨hi, hd, hn, H⟩
  try simp only at hi hd hn H ⊢
  rcases Nat.lt_or_ge i xs.length with hlt | hge
  · obtain ⟨x, hxi⟩ : ∃ x, xs[i]? = some x := ⟨_, List.getElem?_eq_getElem hlt⟩
    have hxo := FSl.all hx x (List.mem_of_getElem? hxi)
    have hxd : (xs.map InsV.d)[i]? = some x.d := by rw [List.getElem?_map, hxi]; rfl
    refine cT (vLt_T (by omega)) ?_
    refine bk ?_
    obtain ⟨b1, o1, E1, F1, hok1⟩ := FSl.elt hx hxi
    have hok1_op := hok1.op
    have hok1_a := hok1.a
    have hok1_b := hok1.b
    have hok1_to := hok1.to
    refine rIxE E1 rfl rfl rfl ?_
    refine rLdA (H.fat F1) 0 rfl rfl rfl ?_
    refine rAllocS H rfl ?_
    clear H
    intro p1 w1 H
    clear w_
    refine rStAS H 0 rfl rfl rfl (by simp only [List.all_cons, List.all_nil, FSl.one hok1_to, FSl.one hx]; rfl) ?_
    clear H
    intro w2 H
    clear w1
    refine rFieldAt rfl ?_
    refine rLd (H.at 0 rfl) 0 rfl rfl rfl ?_
    refine bk ?_
    refine cI (fun c1 => ?_) (fun c1 => ?_)
    · replace c1 := vEq_t (c1)
      refine cT (vEq_T (by assumption)) ?_
      refine eqI64 (by omega) ?_
      refine eqI64 (by omega) ?_
      refine Nxt.mk ((i + 1, d + 1)) (mt_cons rfl (mt_i rfl (by first | omega | (simp only; omega) | (simp; omega)) (mt_nil))) ?_ ?_
      · refine ⟨?_, ?_⟩
        · assumption
        refine ⟨?_, ?_⟩
        · refine ⟨?_, ?_⟩
          · omega
          omega
        refine ⟨?_, ?_⟩
        · exact oth_step hn hxd (by first | rw [dd_open (by omega)] | (rw [dd_end (by omega)]; omega) | (rw [dd_no (by omega) (by omega) (by omega) (by omega)]; omega)) (by show ¬ ((x.op = 5 ∧ d = 1) ∨ (x.op = 11 ∧ d = 1)); omega)
        refine H.drop 0 ?_
        clear H
        intro H
        exact H
      omega
    replace c1 := vEq_f (c1)
    refine cI (fun c2 => ?_) (fun c2 => ?_)
    · replace c2 := vEq_t (c2)
      refine cT (vEq_T (by assumption)) ?_
      refine eqI64 (by omega) ?_
      refine eqI64 (by omega) ?_
      refine Nxt.mk ((i + 1, d + 1)) (mt_cons rfl (mt_i rfl (by first | omega | (simp only; omega) | (simp; omega)) (mt_nil))) ?_ ?_
      · refine ⟨?_, ?_⟩
        · assumption
        refine ⟨?_, ?_⟩
        · refine ⟨?_, ?_⟩
          · omega
          omega
        refine ⟨?_, ?_⟩
        · exact oth_step hn hxd (by first | rw [dd_open (by omega)] | (rw [dd_end (by omega)]; omega) | (rw [dd_no (by omega) (by omega) (by omega) (by omega)]; omega)) (by show ¬ ((x.op = 5 ∧ d = 1) ∨ (x.op = 11 ∧ d = 1)); omega)
        refine H.drop 0 ?_
        clear H
        intro H
        exact H
      omega
    replace c2 := vEq_f (c2)
    refine cI (fun c3 => ?_) (fun c3 => ?_)
    · replace c3 := vEq_t (c3)
      refine eqI64 (by omega) ?_
      refine eqI64 (by omega) ?_
      refine Nxt.mk ((i + 1, d + 1)) (mt_cons rfl (mt_i rfl (by first | omega | (simp only; omega) | (simp; omega)) (mt_nil))) ?_ ?_
      · refine ⟨?_, ?_⟩
        · assumption
        refine ⟨?_, ?_⟩
        · refine ⟨?_, ?_⟩
          · omega
          omega
        refine ⟨?_, ?_⟩
        · exact oth_step hn hxd (by first | rw [dd_open (by omega)] | (rw [dd_end (by omega)]; omega) | (rw [dd_no (by omega) (by omega) (by omega) (by omega)]; omega)) (by show ¬ ((x.op = 5 ∧ d = 1) ∨ (x.op = 11 ∧ d = 1)); omega)
        refine H.drop 0 ?_
        clear H
        intro H
        exact H
      omega
    replace c3 := vEq_f (c3)
    refine cI (fun c4 => ?_) (fun c4 => ?_)
    · replace c4 := vEq_t (c4)
      refine cI (fun c5 => ?_) (fun c5 => ?_)
      · replace c5 := vEq_t (c5)
        refine Done.mk ?_
        exact ⟨i, rfl, hlt, fun _ => (oth_end hn hxd (by show (x.op = 5 ∧ d = 1) ∨ (x.op = 11 ∧ d = 1); omega)).symm, H.tl⟩
      replace c5 := vEq_f (c5)
      refine eqI64 (by omega) ?_
      refine Nxt.mk ((i + 1, d)) (mt_cons rfl (mt_i rfl (by first | omega | (simp only; omega) | (simp; omega)) (mt_nil))) ?_ ?_
      · refine ⟨?_, ?_⟩
        · assumption
        refine ⟨?_, ?_⟩
        · refine ⟨?_, ?_⟩
          · omega
          omega
        refine ⟨?_, ?_⟩
        · exact oth_step hn hxd (by first | rw [dd_open (by omega)] | (rw [dd_end (by omega)]; omega) | (rw [dd_no (by omega) (by omega) (by omega) (by omega)]; omega)) (by show ¬ ((x.op = 5 ∧ d = 1) ∨ (x.op = 11 ∧ d = 1)); omega)
        refine H.drop 0 ?_
        clear H
        intro H
        exact H
      omega
    replace c4 := vEq_f (c4)
    refine cI (fun c5 => ?_) (fun c5 => ?_)
    · replace c5 := vEq_t (c5)
      refine eqI64 (by omega) ?_
      refine cI (fun c6 => ?_) (fun c6 => ?_)
      · replace c6 := vEq_t (c6)
        refine Done.mk ?_
        exact ⟨i, rfl, hlt, fun _ => (oth_end hn hxd (by show (x.op = 5 ∧ d = 1) ∨ (x.op = 11 ∧ d = 1); omega)).symm, H.tl⟩
      replace c6 := vEq_f (c6)
      refine eqI64 (by omega) ?_
      refine Nxt.mk ((i + 1, d - 1)) (mt_cons rfl (mt_i rfl (by first | omega | (simp only; omega) | (simp; omega)) (mt_nil))) ?_ ?_
      · refine ⟨?_, ?_⟩
        · assumption
        refine ⟨?_, ?_⟩
        · refine ⟨?_, ?_⟩
          · omega
          omega
        refine ⟨?_, ?_⟩
        · exact oth_step hn hxd (by first | rw [dd_open (by omega)] | (rw [dd_end (by omega)]; omega) | (rw [dd_no (by omega) (by omega) (by omega) (by omega)]; omega)) (by show ¬ ((x.op = 5 ∧ d = 1) ∨ (x.op = 11 ∧ d = 1)); omega)
        refine H.drop 0 ?_
        clear H
        intro H
        exact H
      omega
    replace c5 := vEq_f (c5)
    refine eqI64 (by omega) ?_
    refine Nxt.mk ((i + 1, d)) (mt_cons rfl (mt_i rfl (by first | omega | (simp only; omega) | (simp; omega)) (mt_nil))) ?_ ?_
    · refine ⟨?_, ?_⟩
      · assumption
      refine ⟨?_, ?_⟩
      · refine ⟨?_, ?_⟩
        · omega
        omega
      refine ⟨?_, ?_⟩
      · exact oth_step hn hxd (by first | rw [dd_open (by omega)] | (rw [dd_end (by omega)]; omega) | (rw [dd_no (by omega) (by omega) (by omega) (by omega)]; omega)) (by show ¬ ((x.op = 5 ∧ d = 1) ∨ (x.op = 11 ∧ d = 1)); omega)
      refine H.drop 0 ?_
      clear H
      intro H
      exact H
    omega
  · refine cF (vLt_F (by omega)) ?_
    refine rLenF hx rfl ?_
    refine eqI64 (by omega) ?_
    refine Done.mk ?_
    exact ⟨xs.length - 1, congrArg (Value.int .i64) (by omega), by omega, fun h => by have := oth_all hn (by rw [List.length_map]; omega); omega, H⟩
theorem RuleR.no {k : Nat} {ls new : List InsD} {gone : Nat} (h : ¬ App k ls) : RuleR k ls gone new false := ⟨⟨fun h => (by cases h), fun h2 => absurd h2 h⟩, fun h => by cases h⟩
theorem RuleR.of {k : Nat} {ls new : List InsD} {gone : Nat} {b : Bool} (h : b = true ↔ App k ls) (t : App k ls → Tn CK ls gone new) : RuleR k ls gone new b := ⟨h, fun hb => t (h.1 hb)⟩

theorem R0 {xs : List InsV} {x : InsV} (hx0 : xs[0]? = some x) : RuleR 0 (xs.map InsV.d) 1 [] (vEq x.op 1) := by
  have e0 := i0_map hx0
  refine RuleR.of ?_ fun hA => ?_
  · show vEq x.op 1 = true ↔ (i0 _).op = 1
    rw [e0, vEq_iff, decide_eq_true_iff]; exact Iff.rfl
  · simp only [App, e0] at hA
    rw [shape1 hx0]; exact Tn.idle hA
theorem rule0 (H : Sat g w l) (v : Value) (xs : List InsV) (hx : FSl g enV (okV g) 4 v xs) (z : Int) (s : List Int) (hr : run (xs.map InsV.d) (z :: s) = some []) (hl : xs.length ≤ 200) (hp : 0 < xs.length) : Fc Tryd.prog 125 #[v] w (fun r w' => ∃ (g' : Glob) (gone : Nat) (nv : Value) (news : List InsV) (b : Bool), r = .tuple #[.agg #[.int .i64 gone, nv], .bool b] ∧ Ext g g' ∧ FSl g' enV (okV g') 4 nv news ∧ RuleR 0 (xs.map InsV.d) gone (news.map InsV.d) b ∧ Sat g' w' l) := by
  obtain ⟨x, hx0⟩ : ∃ x, xs[0]? = some x := ⟨_, List.getElem?_eq_getElem hp⟩
  have hxo := FSl.all hx x (List.mem_of_getElem? hx0)
  have hxo_op := hxo.op
  have hxo_a := hxo.a
  have e0 := i0_map hx0
  refine Fc.of Tryd.func125 rfl (by kernel_rfl) ?_
  refine rAllocS H rfl ?_
  clear H
  intro p1 w1 H
  refine drawzS H [0] [(0, .pure), (1, .pure), (2, .pure), (3, .pure), (4, .held), (5, .pure), (6, .forced), (7, .pure)] mixed (by kernel_rfl) (by kernel_rfl) ?_
  clear H
  intro w2 H
  clear w1
  refine tk (fun wx HS => rBuild rfl rfl rfl ⟨rfl, rfl⟩) ?_
  obtain ⟨b1, o1, E1, F1, hok1⟩ := FSl.elt hx hx0
  have hok1_op := hok1.op
  have hok1_a := hok1.a
  have hok1_b := hok1.b
  have hok1_to := hok1.to
  refine tk (fun wx HS => rIxE E1 rfl rfl rfl ⟨rfl, rfl⟩) ?_
  refine tk (fun wx HS => rFieldAt rfl ⟨rfl, rfl⟩) ?_
  refine tk (fun wx HS => rLd (HS.fat F1) 0 rfl rfl rfl ⟨rfl, rfl⟩) ?_
  refine rStAS H 0 rfl rfl rfl rfl ?_
  clear H
  intro w1 H
  clear w2
  refine KeepP.mk (H.drop 0 (fun H => H)) ?_
  refine rdAN (H.at 0 rfl) 0 rfl rfl rfl ?_
  refine Done.mk ?_
  exact ⟨g, 1, _, [], _, rfl, Ext.refl _, FSl.nil0 _ _ _ _, R0 hx0, H.tl⟩

end
end Go.Proofs.YtcpniokopahakaaDoor.Fold
/- Package fold: the simple rules. -/
set_option maxRecDepth 100000
set_option maxHeartbeats 4000000
set_option linter.unusedVariables false
set_option linter.unusedSimpArgs false
namespace Go.Proofs.YtcpniokopahakaaDoor.Fold
open Go Go.Proofs.YtcpniokopahakaaDoor.Eng Go.RowKit
open Ins Nest Leb Bin Valid
theorem RuleR.yes {k : Nat} {ls new : List InsD} {gone : Nat} (h : App k ls) (t : App k ls → Tn CK ls gone new) : RuleR k ls gone new true := ⟨⟨fun _ => h, fun _ => rfl⟩, fun _ => t h⟩
theorem one_ok {ok : InsV → Prop} {x : InsV} (h : ok x) : ∀ y ∈ [x], ok y := fun y hy => by rw [List.mem_singleton.1 hy]; exact h
section
variable {g : Glob} {w : World} {l : List As}
theorem rule3 (H : Sat g w l) (v : Value) (xs : List InsV) (hx : FSl g enV (okV g) 4 v xs) (z : Int) (s : List Int) (hr : run (xs.map InsV.d) (z :: s) = some []) (hl : xs.length ≤ 200) (hp : 0 < xs.length) : Fc Tryd.prog 128 #[v] w (fun r w' => ∃ (g' : Glob) (gone : Nat) (nv : Value) (news : List InsV) (b : Bool), r = .tuple #[.agg #[.int .i64 gone, nv], .bool b] ∧ Ext g g' ∧ FSl g' enV (okV g') 4 nv news ∧ RuleR 3 (xs.map InsV.d) gone (news.map InsV.d) b ∧ Sat g' w' l) := by
  obtain ⟨x, hx0⟩ : ∃ x, xs[0]? = some x := ⟨_, List.getElem?_eq_getElem hp⟩
  have hxo := FSl.all hx x (List.mem_of_getElem? hx0)
  have hxo_op := hxo.op
  have hxo_a := hxo.a
  have e0 := i0_map hx0
  refine Fc.of Tryd.func128 rfl (by kernel_rfl) ?_
  by_cases h2 : 2 ≤ xs.length
  · skip
    obtain ⟨y, hx1⟩ : ∃ y, xs[1]? = some y := ⟨_, List.getElem?_eq_getElem (by omega)⟩
    have hyo := FSl.all hx y (List.mem_of_getElem? hx1)
    have hyo_op := hyo.op
    have hyo_a := hyo.a
    have e1 := i1_map hx1
    refine rAllocS H rfl ?_
    clear H
    intro p1 w1 H
    obtain ⟨b1, o1, E1, F1, hok1⟩ := FSl.elt hx hx0
    have hok1_op := hok1.op
    have hok1_a := hok1.a
    have hok1_b := hok1.b
    have hok1_to := hok1.to
    refine rIxE E1 rfl rfl rfl ?_
    refine rLdA (H.fat F1) 0 rfl rfl rfl ?_
    refine CallP.mk (Fc.imp (Go.Proofs.YtcpniokopahakaaDoor.Fold.isConstX H _ ?_) ?_)
    · assumption
    clear H
    rintro _ w2 ⟨b2, ⟨rfl, ⟨h1, H⟩⟩⟩
    refine br (fun c1 => ?_) (fun c1 => ?_)
    · replace c1 := h1.1 (c1)
      refine drawzS H [0] [(0, .pure), (1, .pure), (2, .pure), (3, .pure), (4, .pure), (5, .pure), (6, .pure), (7, .pure), (8, .pure), (9, .pure), (10, .pure), (11, .held), (12, .pure), (13, .pure), (14, .forced), (15, .pure)] mixed (by kernel_rfl) (by kernel_rfl) ?_
      clear H
      intro w3 H
      clear w2
      refine tk (fun wx HS => rBuild rfl rfl rfl ⟨rfl, rfl⟩) ?_
      refine tk (fun wx HS => rLenF hx rfl ⟨rfl, rfl⟩) ?_
      refine br_t (vLt_T (by omega)) ?_
      obtain ⟨b3, o2, E2, F2, hok2⟩ := FSl.elt hx hx1
      have hok2_op := hok2.op
      have hok2_a := hok2.a
      have hok2_b := hok2.b
      have hok2_to := hok2.to
      refine tk (fun wx HS => rIxE E2 rfl rfl rfl ⟨rfl, rfl⟩) ?_
      refine tk (fun wx HS => rFieldAt rfl ⟨rfl, rfl⟩) ?_
      refine tk (fun wx HS => rLd (HS.fat F2) 0 rfl rfl rfl ⟨rfl, rfl⟩) ?_
      refine rStAS H 0 rfl rfl rfl rfl ?_
      clear H
      intro w2 H
      clear w3
      refine KeepP.mk (H.drop 0 (fun H => H)) ?_
      refine rdAN (H.at 0 rfl) 0 rfl rfl rfl ?_
      refine Done.mk ?_
      exact ⟨g, 2, _, [], _, rfl, Ext.refl _, FSl.nil0 _ _ _ _, (by first | exact RuleR.no (by intro hA; simp only [App, e0, e1, IsC, oneOk, List.length_map] at hA; (try simp only [InsV.d] at hA); omega) | exact RuleR.yes (by simp only [App, e0, e1, IsC, oneOk, List.length_map]; (try simp only [InsV.d]); omega) (fun hA => by simp only [App, e0, e1, IsC, oneOk, List.length_map] at hA; (try simp only [InsV.d] at hA); rw [shape2 hx0 hx1]; exact Tn.unused hA.1 hA.2.2) | exact RuleR.of (by rw [vEq_iff, decide_eq_true_iff]; simp only [App, e0, e1, IsC, oneOk, List.length_map]; (try simp only [InsV.d]); omega) (fun hA => by simp only [App, e0, e1, IsC, oneOk, List.length_map] at hA; (try simp only [InsV.d] at hA); rw [shape2 hx0 hx1]; exact Tn.unused hA.1 hA.2.2)), H.tl⟩
    replace c1 := iff_f h1 (c1)
    refine rIxE E1 rfl rfl rfl ?_
    refine rFieldAt rfl ?_
    refine rLd (H.fat F1) 0 rfl rfl rfl ?_
    refine br (fun c2 => ?_) (fun c2 => ?_)
    · replace c2 := vEq_t (c2)
      refine drawzS H [0] [(0, .pure), (1, .pure), (2, .pure), (3, .pure), (4, .pure), (5, .pure), (6, .pure), (7, .pure), (8, .pure), (9, .pure), (10, .pure), (11, .held), (12, .pure), (13, .pure), (14, .forced), (15, .pure)] mixed (by kernel_rfl) (by kernel_rfl) ?_
      clear H
      intro w3 H
      clear w2
      refine tk (fun wx HS => rBuild rfl rfl rfl ⟨rfl, rfl⟩) ?_
      refine tk (fun wx HS => rLenF hx rfl ⟨rfl, rfl⟩) ?_
      refine br_t (vLt_T (by omega)) ?_
      obtain ⟨b3, o2, E2, F2, hok2⟩ := FSl.elt hx hx1
      have hok2_op := hok2.op
      have hok2_a := hok2.a
      have hok2_b := hok2.b
      have hok2_to := hok2.to
      refine tk (fun wx HS => rIxE E2 rfl rfl rfl ⟨rfl, rfl⟩) ?_
      refine tk (fun wx HS => rFieldAt rfl ⟨rfl, rfl⟩) ?_
      refine tk (fun wx HS => rLd (HS.fat F2) 0 rfl rfl rfl ⟨rfl, rfl⟩) ?_
      refine rStAS H 0 rfl rfl rfl rfl ?_
      clear H
      intro w2 H
      clear w3
      refine KeepP.mk (H.drop 0 (fun H => H)) ?_
      refine rdAN (H.at 0 rfl) 0 rfl rfl rfl ?_
      refine Done.mk ?_
      exact ⟨g, 2, _, [], _, rfl, Ext.refl _, FSl.nil0 _ _ _ _, (by first | exact RuleR.no (by intro hA; simp only [App, e0, e1, IsC, oneOk, List.length_map] at hA; (try simp only [InsV.d] at hA); omega) | exact RuleR.yes (by simp only [App, e0, e1, IsC, oneOk, List.length_map]; (try simp only [InsV.d]); omega) (fun hA => by simp only [App, e0, e1, IsC, oneOk, List.length_map] at hA; (try simp only [InsV.d] at hA); rw [shape2 hx0 hx1]; exact Tn.unused hA.1 hA.2.2) | exact RuleR.of (by rw [vEq_iff, decide_eq_true_iff]; simp only [App, e0, e1, IsC, oneOk, List.length_map]; (try simp only [InsV.d]); omega) (fun hA => by simp only [App, e0, e1, IsC, oneOk, List.length_map] at hA; (try simp only [InsV.d] at hA); rw [shape2 hx0 hx1]; exact Tn.unused hA.1 hA.2.2)), H.tl⟩
    replace c2 := vEq_f (c2)
    refine rIxE E1 rfl rfl rfl ?_
    refine rFieldAt rfl ?_
    refine rLd (H.fat F1) 0 rfl rfl rfl ?_
    refine drawzS H [0] [(0, .pure), (1, .pure), (2, .pure), (3, .pure), (4, .pure), (5, .pure), (6, .pure), (7, .pure), (8, .pure), (9, .pure), (10, .pure), (11, .held), (12, .pure), (13, .pure), (14, .forced), (15, .pure)] mixed (by kernel_rfl) (by kernel_rfl) ?_
    clear H
    intro w3 H
    clear w2
    refine tk (fun wx HS => rBuild rfl rfl rfl ⟨rfl, rfl⟩) ?_
    refine br (fun c3 => ?_) (fun c3 => ?_)
    · replace c3 := vEq_t (c3)
      refine tk (fun wx HS => rLenF hx rfl ⟨rfl, rfl⟩) ?_
      refine br_t (vLt_T (by omega)) ?_
      obtain ⟨b3, o2, E2, F2, hok2⟩ := FSl.elt hx hx1
      have hok2_op := hok2.op
      have hok2_a := hok2.a
      have hok2_b := hok2.b
      have hok2_to := hok2.to
      refine tk (fun wx HS => rIxE E2 rfl rfl rfl ⟨rfl, rfl⟩) ?_
      refine tk (fun wx HS => rFieldAt rfl ⟨rfl, rfl⟩) ?_
      refine tk (fun wx HS => rLd (HS.fat F2) 0 rfl rfl rfl ⟨rfl, rfl⟩) ?_
      refine rStAS H 0 rfl rfl rfl rfl ?_
      clear H
      intro w2 H
      clear w3
      refine KeepP.mk (H.drop 0 (fun H => H)) ?_
      refine rdAN (H.at 0 rfl) 0 rfl rfl rfl ?_
      refine Done.mk ?_
      exact ⟨g, 2, _, [], _, rfl, Ext.refl _, FSl.nil0 _ _ _ _, (by first | exact RuleR.no (by intro hA; simp only [App, e0, e1, IsC, oneOk, List.length_map] at hA; (try simp only [InsV.d] at hA); omega) | exact RuleR.yes (by simp only [App, e0, e1, IsC, oneOk, List.length_map]; (try simp only [InsV.d]); omega) (fun hA => by simp only [App, e0, e1, IsC, oneOk, List.length_map] at hA; (try simp only [InsV.d] at hA); rw [shape2 hx0 hx1]; exact Tn.unused hA.1 hA.2.2) | exact RuleR.of (by rw [vEq_iff, decide_eq_true_iff]; simp only [App, e0, e1, IsC, oneOk, List.length_map]; (try simp only [InsV.d]); omega) (fun hA => by simp only [App, e0, e1, IsC, oneOk, List.length_map] at hA; (try simp only [InsV.d] at hA); rw [shape2 hx0 hx1]; exact Tn.unused hA.1 hA.2.2)), H.tl⟩
    replace c3 := vEq_f (c3)
    refine rStAS H 0 rfl rfl rfl rfl ?_
    clear H
    intro w2 H
    clear w3
    refine KeepP.mk (H.drop 0 (fun H => H)) ?_
    refine rdAN (H.at 0 rfl) 0 rfl rfl rfl ?_
    refine Done.mk ?_
    exact ⟨g, 2, _, [], _, rfl, Ext.refl _, FSl.nil0 _ _ _ _, (by first | exact RuleR.no (by intro hA; simp only [App, e0, e1, IsC, oneOk, List.length_map] at hA; (try simp only [InsV.d] at hA); omega) | exact RuleR.yes (by simp only [App, e0, e1, IsC, oneOk, List.length_map]; (try simp only [InsV.d]); omega) (fun hA => by simp only [App, e0, e1, IsC, oneOk, List.length_map] at hA; (try simp only [InsV.d] at hA); rw [shape2 hx0 hx1]; exact Tn.unused hA.1 hA.2.2) | exact RuleR.of (by rw [vEq_iff, decide_eq_true_iff]; simp only [App, e0, e1, IsC, oneOk, List.length_map]; (try simp only [InsV.d]); omega) (fun hA => by simp only [App, e0, e1, IsC, oneOk, List.length_map] at hA; (try simp only [InsV.d] at hA); rw [shape2 hx0 hx1]; exact Tn.unused hA.1 hA.2.2)), H.tl⟩
  · have h11 : x.op = 11 := Decidable.by_contra fun h => h2 (len2 hx0 hr h)
    refine rAllocS H rfl ?_
    clear H
    intro p1 w1 H
    obtain ⟨b1, o1, E1, F1, hok1⟩ := FSl.elt hx hx0
    have hok1_op := hok1.op
    have hok1_a := hok1.a
    have hok1_b := hok1.b
    have hok1_to := hok1.to
    refine rIxE E1 rfl rfl rfl ?_
    refine rLdA (H.fat F1) 0 rfl rfl rfl ?_
    refine CallP.mk (Fc.imp (Go.Proofs.YtcpniokopahakaaDoor.Fold.isConstX H _ ?_) ?_)
    · assumption
    clear H
    rintro _ w2 ⟨b2, ⟨rfl, ⟨h1, H⟩⟩⟩
    refine br_f (iff_F h1 (by omega)) ?_
    refine rIxE E1 rfl rfl rfl ?_
    refine rFieldAt rfl ?_
    refine rLd (H.fat F1) 0 rfl rfl rfl ?_
    refine br_f (vEq_F (by omega)) ?_
    refine rIxE E1 rfl rfl rfl ?_
    refine rFieldAt rfl ?_
    refine rLd (H.fat F1) 0 rfl rfl rfl ?_
    refine drawzS H [0] [(0, .pure), (1, .pure), (2, .pure), (3, .pure), (4, .pure), (5, .pure), (6, .pure), (7, .pure), (8, .pure), (9, .pure), (10, .pure), (11, .held), (12, .pure), (13, .pure), (14, .forced), (15, .pure)] mixed (by kernel_rfl) (by kernel_rfl) ?_
    clear H
    intro w3 H
    clear w2
    refine tk (fun wx HS => rBuild rfl rfl rfl ⟨rfl, rfl⟩) ?_
    refine br_f (vEq_F (by omega)) ?_
    refine rStAS H 0 rfl rfl rfl rfl ?_
    clear H
    intro w2 H
    clear w3
    refine KeepP.mk (H.drop 0 (fun H => H)) ?_
    refine rdAN (H.at 0 rfl) 0 rfl rfl rfl ?_
    refine Done.mk ?_
    exact ⟨g, 2, _, [], _, rfl, Ext.refl _, FSl.nil0 _ _ _ _, (by first | exact RuleR.no (by intro hA; simp only [App, e0, IsC, oneOk, List.length_map] at hA; (try simp only [InsV.d] at hA); omega) | exact RuleR.yes (by simp only [App, e0, IsC, oneOk, List.length_map]; (try simp only [InsV.d]); omega) (fun hA => by simp only [App, e0, IsC, oneOk, List.length_map] at hA; (try simp only [InsV.d] at hA); omega) | exact RuleR.of (by rw [vEq_iff, decide_eq_true_iff]; simp only [App, e0, IsC, oneOk, List.length_map]; (try simp only [InsV.d]); omega) (fun hA => by simp only [App, e0, IsC, oneOk, List.length_map] at hA; (try simp only [InsV.d] at hA); omega)), H.tl⟩
theorem rule4 (H : Sat g w l) (v : Value) (xs : List InsV) (hx : FSl g enV (okV g) 4 v xs) (z : Int) (s : List Int) (hr : run (xs.map InsV.d) (z :: s) = some []) (hl : xs.length ≤ 200) (hp : 0 < xs.length) : Fc Tryd.prog 129 #[v] w (fun r w' => ∃ (g' : Glob) (gone : Nat) (nv : Value) (news : List InsV) (b : Bool), r = .tuple #[.agg #[.int .i64 gone, nv], .bool b] ∧ Ext g g' ∧ FSl g' enV (okV g') 4 nv news ∧ RuleR 4 (xs.map InsV.d) gone (news.map InsV.d) b ∧ Sat g' w' l) := by
  obtain ⟨x, hx0⟩ : ∃ x, xs[0]? = some x := ⟨_, List.getElem?_eq_getElem hp⟩
  have hxo := FSl.all hx x (List.mem_of_getElem? hx0)
  have hxo_op := hxo.op
  have hxo_a := hxo.a
  have e0 := i0_map hx0
  refine Fc.of Tryd.func129 rfl (by kernel_rfl) ?_
  by_cases h2 : 2 ≤ xs.length
  · skip
    obtain ⟨y, hx1⟩ : ∃ y, xs[1]? = some y := ⟨_, List.getElem?_eq_getElem (by omega)⟩
    have hyo := FSl.all hx y (List.mem_of_getElem? hx1)
    have hyo_op := hyo.op
    have hyo_a := hyo.a
    have e1 := i1_map hx1
    refine rAllocS H rfl ?_
    clear H
    intro p1 w1 H
    refine rLenF hx rfl ?_
    refine br_f (vLt_F (by omega)) ?_
    obtain ⟨b1, o1, E1, F1, hok1⟩ := FSl.elt hx hx0
    have hok1_op := hok1.op
    have hok1_a := hok1.a
    have hok1_b := hok1.b
    have hok1_to := hok1.to
    refine rIxE E1 rfl rfl rfl ?_
    refine rLdA (H.fat F1) 0 rfl rfl rfl ?_
    refine CallP.mk (Fc.imp (Go.Proofs.YtcpniokopahakaaDoor.Fold.isNumberX H _ ?_) ?_)
    · assumption
    clear H
    rintro _ w2 ⟨b2, ⟨rfl, ⟨h1, H⟩⟩⟩
    refine br (fun c1 => ?_) (fun c1 => ?_)
    · replace c1 := iff_f h1 (not_t (c1))
      refine cT rfl ?_
      refine rBuild rfl rfl rfl ?_
      refine rStAS H 0 rfl rfl rfl rfl ?_
      clear H
      intro w3 H
      clear w2
      refine rdAN (H.at 0 rfl) 0 rfl rfl rfl ?_
      refine Done.mk ?_
      exact ⟨g, 0, _, [], _, rfl, Ext.refl _, FSl.nil0 _ _ _ _, (by first | exact RuleR.no (by intro hA; simp only [App, e0, e1, IsC, oneOk, List.length_map] at hA; (try simp only [InsV.d] at hA); omega) | exact RuleR.yes (by simp only [App, e0, e1, IsC, oneOk, List.length_map]; (try simp only [InsV.d]); omega) (fun hA => by simp only [App, e0, e1, IsC, oneOk, List.length_map] at hA; (try simp only [InsV.d] at hA); omega) | exact RuleR.of (by rw [vEq_iff, decide_eq_true_iff]; simp only [App, e0, e1, IsC, oneOk, List.length_map]; (try simp only [InsV.d]); omega) (fun hA => by simp only [App, e0, e1, IsC, oneOk, List.length_map] at hA; (try simp only [InsV.d] at hA); omega)), H.tl⟩
    replace c1 := h1.1 (not_f (c1))
    obtain ⟨b3, o2, E2, F2, hok2⟩ := FSl.elt hx hx1
    have hok2_op := hok2.op
    have hok2_a := hok2.a
    have hok2_b := hok2.b
    have hok2_to := hok2.to
    refine rIxE E2 rfl rfl rfl ?_
    refine rFieldAt rfl ?_
    refine rLd (H.fat F2) 0 rfl rfl rfl ?_
    refine cI (fun c2 => ?_) (fun c2 => ?_)
    · replace c2 := vNe_t (c2)
      refine rBuild rfl rfl rfl ?_
      refine rStAS H 0 rfl rfl rfl rfl ?_
      clear H
      intro w3 H
      clear w2
      refine rdAN (H.at 0 rfl) 0 rfl rfl rfl ?_
      refine Done.mk ?_
      exact ⟨g, 0, _, [], _, rfl, Ext.refl _, FSl.nil0 _ _ _ _, (by first | exact RuleR.no (by intro hA; simp only [App, e0, e1, IsC, oneOk, List.length_map] at hA; (try simp only [InsV.d] at hA); omega) | exact RuleR.yes (by simp only [App, e0, e1, IsC, oneOk, List.length_map]; (try simp only [InsV.d]); omega) (fun hA => by simp only [App, e0, e1, IsC, oneOk, List.length_map] at hA; (try simp only [InsV.d] at hA); omega) | exact RuleR.of (by rw [vEq_iff, decide_eq_true_iff]; simp only [App, e0, e1, IsC, oneOk, List.length_map]; (try simp only [InsV.d]); omega) (fun hA => by simp only [App, e0, e1, IsC, oneOk, List.length_map] at hA; (try simp only [InsV.d] at hA); omega)), H.tl⟩
    replace c2 := vNe_f (c2)
    refine rIxE E1 rfl rfl rfl ?_
    refine rFieldAt rfl ?_
    refine rLd (H.fat F1) 1 rfl rfl rfl ?_
    refine cI (fun c3 => ?_) (fun c3 => ?_)
    · replace c3 := vEq_t (c3)
      refine rBuild rfl rfl rfl ?_
      refine rStAS H 0 rfl rfl rfl rfl ?_
      clear H
      intro w3 H
      clear w2
      refine rdAN (H.at 0 rfl) 0 rfl rfl rfl ?_
      refine Done.mk ?_
      exact ⟨g, 2, _, [], _, rfl, Ext.refl _, FSl.nil0 _ _ _ _, (by first | exact RuleR.no (by intro hA; simp only [App, e0, e1, IsC, oneOk, List.length_map] at hA; (try simp only [InsV.d] at hA); omega) | exact RuleR.yes (by simp only [App, e0, e1, IsC, oneOk, List.length_map]; (try simp only [InsV.d]); omega) (fun hA => by simp only [App, e0, e1, IsC, oneOk, List.length_map] at hA; (try simp only [InsV.d] at hA); rw [shape2 hx0 hx1]; exact Tn.sure0 hA.2.1 hA.2.2) | exact RuleR.of (by rw [vEq_iff, decide_eq_true_iff]; simp only [App, e0, e1, IsC, oneOk, List.length_map]; (try simp only [InsV.d]); omega) (fun hA => by simp only [App, e0, e1, IsC, oneOk, List.length_map] at hA; (try simp only [InsV.d] at hA); rw [shape2 hx0 hx1]; exact Tn.sure0 hA.2.1 hA.2.2)), H.tl⟩
    replace c3 := vEq_f (c3)
    refine rIxE E2 rfl rfl rfl ?_
    refine rFieldAt rfl ?_
    refine rLd (H.fat F2) 1 rfl rfl rfl ?_
    refine rBuild rfl rfl rfl ?_
    refine rBuildSliceS H rfl rfl rfl rfl ?_
    clear H
    intro p2 w3 H
    clear w2
    refine rBuild rfl rfl rfl ?_
    refine rStAS H 1 rfl rfl rfl rfl ?_
    clear H
    intro w2 H
    clear w3
    refine rdAN (H.at 1 rfl) 0 rfl rfl rfl ?_
    refine Done.mk ?_
    (refine H.ptSl (n := 1) (en := enV) (s := 4) 0 rfl [⟨12, y.a, 0, .slice none 0 0, []⟩] rfl rfl (fun _ => rfl) rfl ?_; intro H1; refine H1.frz1 0 (okV g) rfl (one_ok ⟨show U8 12 by decide, hyo_a, show I64 0 by decide, FSl.nil0 _ _ _ _⟩) ?_; intro g1 HE hf H2; exact ⟨g1, 2, _, [⟨12, y.a, 0, .slice none 0 0, []⟩], _, rfl, HE, hf.okm (fun _ _ h => h.ext HE), (by first | exact RuleR.no (by intro hA; simp only [App, e0, e1, IsC, oneOk, List.length_map] at hA; (try simp only [InsV.d] at hA); omega) | exact RuleR.yes (by simp only [App, e0, e1, IsC, oneOk, List.length_map]; (try simp only [InsV.d]); omega) (fun hA => by simp only [App, e0, e1, IsC, oneOk, List.length_map] at hA; (try simp only [InsV.d] at hA); rw [shape2 hx0 hx1]; exact Tn.sure1 hA.2.1 hA.2.2) | exact RuleR.of (by rw [vEq_iff, decide_eq_true_iff]; simp only [App, e0, e1, IsC, oneOk, List.length_map]; (try simp only [InsV.d]); omega) (fun hA => by simp only [App, e0, e1, IsC, oneOk, List.length_map] at hA; (try simp only [InsV.d] at hA); rw [shape2 hx0 hx1]; exact Tn.sure1 hA.2.1 hA.2.2)), H2.tl⟩)
  · have h11 : x.op = 11 := Decidable.by_contra fun h => h2 (len2 hx0 hr h)
    refine rAllocS H rfl ?_
    clear H
    intro p1 w1 H
    refine rLenF hx rfl ?_
    refine br_t (vLt_T (by omega)) ?_
    refine cT rfl ?_
    refine rBuild rfl rfl rfl ?_
    refine rStAS H 0 rfl rfl rfl rfl ?_
    clear H
    intro w2 H
    clear w1
    refine rdAN (H.at 0 rfl) 0 rfl rfl rfl ?_
    refine Done.mk ?_
    exact ⟨g, 0, _, [], _, rfl, Ext.refl _, FSl.nil0 _ _ _ _, (by first | exact RuleR.no (by intro hA; simp only [App, e0, IsC, oneOk, List.length_map] at hA; (try simp only [InsV.d] at hA); omega) | exact RuleR.yes (by simp only [App, e0, IsC, oneOk, List.length_map]; (try simp only [InsV.d]); omega) (fun hA => by simp only [App, e0, IsC, oneOk, List.length_map] at hA; (try simp only [InsV.d] at hA); omega) | exact RuleR.of (by rw [vEq_iff, decide_eq_true_iff]; simp only [App, e0, IsC, oneOk, List.length_map]; (try simp only [InsV.d]); omega) (fun hA => by simp only [App, e0, IsC, oneOk, List.length_map] at hA; (try simp only [InsV.d] at hA); omega)), H.tl⟩
theorem rule6 (H : Sat g w l) (v : Value) (xs : List InsV) (hx : FSl g enV (okV g) 4 v xs) (z : Int) (s : List Int) (hr : run (xs.map InsV.d) (z :: s) = some []) (hl : xs.length ≤ 200) (hp : 0 < xs.length) : Fc Tryd.prog 131 #[v] w (fun r w' => ∃ (g' : Glob) (gone : Nat) (nv : Value) (news : List InsV) (b : Bool), r = .tuple #[.agg #[.int .i64 gone, nv], .bool b] ∧ Ext g g' ∧ FSl g' enV (okV g') 4 nv news ∧ RuleR 6 (xs.map InsV.d) gone (news.map InsV.d) b ∧ Sat g' w' l) := by
  obtain ⟨x, hx0⟩ : ∃ x, xs[0]? = some x := ⟨_, List.getElem?_eq_getElem hp⟩
  have hxo := FSl.all hx x (List.mem_of_getElem? hx0)
  have hxo_op := hxo.op
  have hxo_a := hxo.a
  have e0 := i0_map hx0
  refine Fc.of Tryd.func131 rfl (by kernel_rfl) ?_
  by_cases h2 : 2 ≤ xs.length
  · skip
    obtain ⟨y, hx1⟩ : ∃ y, xs[1]? = some y := ⟨_, List.getElem?_eq_getElem (by omega)⟩
    have hyo := FSl.all hx y (List.mem_of_getElem? hx1)
    have hyo_op := hyo.op
    have hyo_a := hyo.a
    have e1 := i1_map hx1
    refine rAllocS H rfl ?_
    clear H
    intro p1 w1 H
    refine drawzS H [] [(0, .pure), (1, .pure), (2, .pure), (3, .held), (4, .pure), (5, .pure), (6, .pure), (7, .pure), (8, .pure), (9, .held), (10, .pure), (11, .pure), (12, .pure), (13, .pure), (14, .pure), (15, .pure), (16, .held), (17, .pure), (18, .pure), (19, .pure), (20, .held), (21, .pure), (22, .pure), (23, .pure)] mixed (by kernel_rfl) (by kernel_rfl) ?_
    clear H
    intro w2 H
    clear w1
    obtain ⟨b1, o1, E1, F1, hok1⟩ := FSl.elt hx hx0
    have hok1_op := hok1.op
    have hok1_a := hok1.a
    have hok1_b := hok1.b
    have hok1_to := hok1.to
    refine tk (fun wx HS => rIxE E1 rfl rfl rfl ⟨rfl, rfl⟩) ?_
    refine tk (fun wx HS => rFieldAt rfl ⟨rfl, rfl⟩) ?_
    refine tk (fun wx HS => rLd (HS.fat F1) 0 rfl rfl rfl ⟨rfl, rfl⟩) ?_
    refine br (fun c1 => ?_) (fun c1 => ?_)
    · replace c1 := vEq_t (c1)
      obtain ⟨b2, o2, E2, F2, hok2⟩ := FSl.elt hx hx1
      have hok2_op := hok2.op
      have hok2_a := hok2.a
      have hok2_b := hok2.b
      have hok2_to := hok2.to
      refine tk (fun wx HS => rIxE E2 rfl rfl rfl ⟨rfl, rfl⟩) ?_
      refine tk (fun wx HS => rFieldAt rfl ⟨rfl, rfl⟩) ?_
      refine tk (fun wx HS => rLd (HS.fat F2) 0 rfl rfl rfl ⟨rfl, rfl⟩) ?_
      refine br (fun c2 => ?_) (fun c2 => ?_)
      · replace c2 := vEq_t (c2)
        refine tk (fun wx HS => rIxE E1 rfl rfl rfl ⟨rfl, rfl⟩) ?_
        refine tk (fun wx HS => rFieldAt rfl ⟨rfl, rfl⟩) ?_
        refine tk (fun wx HS => rLd (HS.fat F1) 1 rfl rfl rfl ⟨rfl, rfl⟩) ?_
        refine tk (fun wx HS => rIxE E2 rfl rfl rfl ⟨rfl, rfl⟩) ?_
        refine tk (fun wx HS => rFieldAt rfl ⟨rfl, rfl⟩) ?_
        refine tk (fun wx HS => rLd (HS.fat F2) 1 rfl rfl rfl ⟨rfl, rfl⟩) ?_
        refine rIxE E1 rfl rfl rfl ?_
        refine rFieldAt rfl ?_
        refine rLd (H.fat F1) 1 rfl rfl rfl ?_
        refine rBuild rfl rfl rfl ?_
        refine rBuildSliceS H rfl rfl rfl rfl ?_
        clear H
        intro p2 w1 H
        clear w2
        refine rBuild rfl rfl rfl ?_
        refine rStAS H 1 rfl rfl rfl rfl ?_
        clear H
        intro w2 H
        clear w1
        refine rdAN (H.at 1 rfl) 0 rfl rfl rfl ?_
        refine Done.mk ?_
        (refine H.ptSl (n := 1) (en := enV) (s := 4) 0 rfl [⟨34, x.a, 0, .slice none 0 0, []⟩] rfl rfl (fun _ => rfl) rfl ?_; intro H1; refine H1.frz1 0 (okV g) rfl (one_ok ⟨show U8 34 by decide, hxo_a, show I64 0 by decide, FSl.nil0 _ _ _ _⟩) ?_; intro g1 HE hf H2; exact ⟨g1, 2, _, [⟨34, x.a, 0, .slice none 0 0, []⟩], _, rfl, HE, hf.okm (fun _ _ h => h.ext HE), (by first | exact RuleR.no (by intro hA; simp only [App, e0, e1, IsC, oneOk, List.length_map] at hA; (try simp only [InsV.d] at hA); omega) | exact RuleR.yes (by simp only [App, e0, e1, IsC, oneOk, List.length_map]; (try simp only [InsV.d]); omega) (fun hA => by simp only [App, e0, e1, IsC, oneOk, List.length_map] at hA; (try simp only [InsV.d] at hA); rw [shape2 hx0 hx1]; exact Tn.kept hA.1 hA.2.1) | exact RuleR.of (by rw [vEq_iff, decide_eq_true_iff]; simp only [App, e0, e1, IsC, oneOk, List.length_map]; (try simp only [InsV.d]); omega) (fun hA => by simp only [App, e0, e1, IsC, oneOk, List.length_map] at hA; (try simp only [InsV.d] at hA); rw [shape2 hx0 hx1]; exact Tn.kept hA.1 hA.2.1)), H2.tl⟩)
      replace c2 := vEq_f (c2)
      refine rIxE E1 rfl rfl rfl ?_
      refine rFieldAt rfl ?_
      refine rLd (H.fat F1) 1 rfl rfl rfl ?_
      refine rBuild rfl rfl rfl ?_
      refine rBuildSliceS H rfl rfl rfl rfl ?_
      clear H
      intro p2 w1 H
      clear w2
      refine rBuild rfl rfl rfl ?_
      refine rStAS H 1 rfl rfl rfl rfl ?_
      clear H
      intro w2 H
      clear w1
      refine rdAN (H.at 1 rfl) 0 rfl rfl rfl ?_
      refine Done.mk ?_
      (refine H.ptSl (n := 1) (en := enV) (s := 4) 0 rfl [⟨34, x.a, 0, .slice none 0 0, []⟩] rfl rfl (fun _ => rfl) rfl ?_; intro H1; refine H1.frz1 0 (okV g) rfl (one_ok ⟨show U8 34 by decide, hxo_a, show I64 0 by decide, FSl.nil0 _ _ _ _⟩) ?_; intro g1 HE hf H2; exact ⟨g1, 2, _, [⟨34, x.a, 0, .slice none 0 0, []⟩], _, rfl, HE, hf.okm (fun _ _ h => h.ext HE), (by first | exact RuleR.no (by intro hA; simp only [App, e0, e1, IsC, oneOk, List.length_map] at hA; (try simp only [InsV.d] at hA); omega) | exact RuleR.yes (by simp only [App, e0, e1, IsC, oneOk, List.length_map]; (try simp only [InsV.d]); omega) (fun hA => by simp only [App, e0, e1, IsC, oneOk, List.length_map] at hA; (try simp only [InsV.d] at hA); rw [shape2 hx0 hx1]; exact Tn.kept hA.1 hA.2.1) | exact RuleR.of (by rw [vEq_iff, decide_eq_true_iff]; simp only [App, e0, e1, IsC, oneOk, List.length_map]; (try simp only [InsV.d]); omega) (fun hA => by simp only [App, e0, e1, IsC, oneOk, List.length_map] at hA; (try simp only [InsV.d] at hA); rw [shape2 hx0 hx1]; exact Tn.kept hA.1 hA.2.1)), H2.tl⟩)
    replace c1 := vEq_f (c1)
    refine rIxE E1 rfl rfl rfl ?_
    refine rFieldAt rfl ?_
    refine rLd (H.fat F1) 1 rfl rfl rfl ?_
    refine rBuild rfl rfl rfl ?_
    refine rBuildSliceS H rfl rfl rfl rfl ?_
    clear H
    intro p2 w1 H
    clear w2
    refine rBuild rfl rfl rfl ?_
    refine rStAS H 1 rfl rfl rfl rfl ?_
    clear H
    intro w2 H
    clear w1
    refine rdAN (H.at 1 rfl) 0 rfl rfl rfl ?_
    refine Done.mk ?_
    (refine H.ptSl (n := 1) (en := enV) (s := 4) 0 rfl [⟨34, x.a, 0, .slice none 0 0, []⟩] rfl rfl (fun _ => rfl) rfl ?_; intro H1; refine H1.frz1 0 (okV g) rfl (one_ok ⟨show U8 34 by decide, hxo_a, show I64 0 by decide, FSl.nil0 _ _ _ _⟩) ?_; intro g1 HE hf H2; exact ⟨g1, 2, _, [⟨34, x.a, 0, .slice none 0 0, []⟩], _, rfl, HE, hf.okm (fun _ _ h => h.ext HE), (by first | exact RuleR.no (by intro hA; simp only [App, e0, e1, IsC, oneOk, List.length_map] at hA; (try simp only [InsV.d] at hA); omega) | exact RuleR.yes (by simp only [App, e0, e1, IsC, oneOk, List.length_map]; (try simp only [InsV.d]); omega) (fun hA => by simp only [App, e0, e1, IsC, oneOk, List.length_map] at hA; (try simp only [InsV.d] at hA); rw [shape2 hx0 hx1]; exact Tn.kept hA.1 hA.2.1) | exact RuleR.of (by rw [vEq_iff, decide_eq_true_iff]; simp only [App, e0, e1, IsC, oneOk, List.length_map]; (try simp only [InsV.d]); omega) (fun hA => by simp only [App, e0, e1, IsC, oneOk, List.length_map] at hA; (try simp only [InsV.d] at hA); rw [shape2 hx0 hx1]; exact Tn.kept hA.1 hA.2.1)), H2.tl⟩)
  · have h11 : x.op = 11 := Decidable.by_contra fun h => h2 (len2 hx0 hr h)
    refine rAllocS H rfl ?_
    clear H
    intro p1 w1 H
    refine drawzS H [] [(0, .pure), (1, .pure), (2, .pure), (3, .held), (4, .pure), (5, .pure), (6, .pure), (7, .pure), (8, .pure), (9, .held), (10, .pure), (11, .pure), (12, .pure), (13, .pure), (14, .pure), (15, .pure), (16, .held), (17, .pure), (18, .pure), (19, .pure), (20, .held), (21, .pure), (22, .pure), (23, .pure)] mixed (by kernel_rfl) (by kernel_rfl) ?_
    clear H
    intro w2 H
    clear w1
    obtain ⟨b1, o1, E1, F1, hok1⟩ := FSl.elt hx hx0
    have hok1_op := hok1.op
    have hok1_a := hok1.a
    have hok1_b := hok1.b
    have hok1_to := hok1.to
    refine tk (fun wx HS => rIxE E1 rfl rfl rfl ⟨rfl, rfl⟩) ?_
    refine tk (fun wx HS => rFieldAt rfl ⟨rfl, rfl⟩) ?_
    refine tk (fun wx HS => rLd (HS.fat F1) 0 rfl rfl rfl ⟨rfl, rfl⟩) ?_
    refine br_f (vEq_F (by omega)) ?_
    refine rIxE E1 rfl rfl rfl ?_
    refine rFieldAt rfl ?_
    refine rLd (H.fat F1) 1 rfl rfl rfl ?_
    refine rBuild rfl rfl rfl ?_
    refine rBuildSliceS H rfl rfl rfl rfl ?_
    clear H
    intro p2 w1 H
    clear w2
    refine rBuild rfl rfl rfl ?_
    refine rStAS H 1 rfl rfl rfl rfl ?_
    clear H
    intro w2 H
    clear w1
    refine rdAN (H.at 1 rfl) 0 rfl rfl rfl ?_
    refine Done.mk ?_
    (refine H.ptSl (n := 1) (en := enV) (s := 4) 0 rfl [⟨34, x.a, 0, .slice none 0 0, []⟩] rfl rfl (fun _ => rfl) rfl ?_; intro H1; refine H1.frz1 0 (okV g) rfl (one_ok ⟨show U8 34 by decide, hxo_a, show I64 0 by decide, FSl.nil0 _ _ _ _⟩) ?_; intro g1 HE hf H2; exact ⟨g1, 2, _, [⟨34, x.a, 0, .slice none 0 0, []⟩], _, rfl, HE, hf.okm (fun _ _ h => h.ext HE), (by first | exact RuleR.no (by intro hA; simp only [App, e0, IsC, oneOk, List.length_map] at hA; (try simp only [InsV.d] at hA); omega) | exact RuleR.yes (by simp only [App, e0, IsC, oneOk, List.length_map]; (try simp only [InsV.d]); omega) (fun hA => by simp only [App, e0, IsC, oneOk, List.length_map] at hA; (try simp only [InsV.d] at hA); omega) | exact RuleR.of (by rw [vEq_iff, decide_eq_true_iff]; simp only [App, e0, IsC, oneOk, List.length_map]; (try simp only [InsV.d]); omega) (fun hA => by simp only [App, e0, IsC, oneOk, List.length_map] at hA; (try simp only [InsV.d] at hA); omega)), H2.tl⟩)
theorem rule8 (H : Sat g w l) (v : Value) (xs : List InsV) (hx : FSl g enV (okV g) 4 v xs) (z : Int) (s : List Int) (hr : run (xs.map InsV.d) (z :: s) = some []) (hl : xs.length ≤ 200) (hp : 0 < xs.length) : Fc Tryd.prog 133 #[v] w (fun r w' => ∃ (g' : Glob) (gone : Nat) (nv : Value) (news : List InsV) (b : Bool), r = .tuple #[.agg #[.int .i64 gone, nv], .bool b] ∧ Ext g g' ∧ FSl g' enV (okV g') 4 nv news ∧ RuleR 8 (xs.map InsV.d) gone (news.map InsV.d) b ∧ Sat g' w' l) := by
  obtain ⟨x, hx0⟩ : ∃ x, xs[0]? = some x := ⟨_, List.getElem?_eq_getElem hp⟩
  have hxo := FSl.all hx x (List.mem_of_getElem? hx0)
  have hxo_op := hxo.op
  have hxo_a := hxo.a
  have e0 := i0_map hx0
  refine Fc.of Tryd.func133 rfl (by kernel_rfl) ?_
  by_cases h2 : 2 ≤ xs.length
  · skip
    obtain ⟨y, hx1⟩ : ∃ y, xs[1]? = some y := ⟨_, List.getElem?_eq_getElem (by omega)⟩
    have hyo := FSl.all hx y (List.mem_of_getElem? hx1)
    have hyo_op := hyo.op
    have hyo_a := hyo.a
    have e1 := i1_map hx1
    refine rAllocS H rfl ?_
    clear H
    intro p1 w1 H
    obtain ⟨b1, o1, E1, F1, hok1⟩ := FSl.elt hx hx0
    have hok1_op := hok1.op
    have hok1_a := hok1.a
    have hok1_b := hok1.b
    have hok1_to := hok1.to
    refine rIxE E1 rfl rfl rfl ?_
    refine rFieldAt rfl ?_
    refine rLd (H.fat F1) 0 rfl rfl rfl ?_
    refine br (fun c1 => ?_) (fun c1 => ?_)
    · replace c1 := vEq_t (c1)
      refine drawzS H [0] [(0, .pure), (1, .pure), (2, .pure), (3, .pure), (4, .pure), (5, .pure), (6, .held), (7, .pure), (8, .pure), (9, .pure), (10, .pure), (11, .pure), (12, .pure), (13, .held), (14, .pure), (15, .pure), (16, .forced), (17, .pure)] mixed (by kernel_rfl) (by kernel_rfl) ?_
      clear H
      intro w2 H
      clear w1
      refine tk (fun wx HS => rBuild rfl rfl rfl ⟨rfl, rfl⟩) ?_
      refine tk (fun wx HS => rIxE E1 rfl rfl rfl ⟨rfl, rfl⟩) ?_
      refine tk (fun wx HS => rFieldAt rfl ⟨rfl, rfl⟩) ?_
      refine tk (fun wx HS => rLd (HS.fat F1) 1 rfl rfl rfl ⟨rfl, rfl⟩) ?_
      refine br (fun c2 => ?_) (fun c2 => ?_)
      · replace c2 := vEq_t (c2)
        obtain ⟨b2, o2, E2, F2, hok2⟩ := FSl.elt hx hx1
        have hok2_op := hok2.op
        have hok2_a := hok2.a
        have hok2_b := hok2.b
        have hok2_to := hok2.to
        refine tk (fun wx HS => rIxE E2 rfl rfl rfl ⟨rfl, rfl⟩) ?_
        refine tk (fun wx HS => rFieldAt rfl ⟨rfl, rfl⟩) ?_
        refine tk (fun wx HS => rLd (HS.fat F2) 0 rfl rfl rfl ⟨rfl, rfl⟩) ?_
        refine rStAS H 0 rfl rfl rfl rfl ?_
        clear H
        intro w1 H
        clear w2
        refine KeepP.mk (H.drop 0 (fun H => H)) ?_
        refine rdAN (H.at 0 rfl) 0 rfl rfl rfl ?_
        refine Done.mk ?_
        exact ⟨g, 2, _, [], _, rfl, Ext.refl _, FSl.nil0 _ _ _ _, (by first | exact RuleR.no (by intro hA; simp only [App, e0, e1, IsC, oneOk, List.length_map] at hA; (try simp only [InsV.d] at hA); omega) | exact RuleR.yes (by simp only [App, e0, e1, IsC, oneOk, List.length_map]; (try simp only [InsV.d]); omega) (fun hA => by simp only [App, e0, e1, IsC, oneOk, List.length_map] at hA; (try simp only [InsV.d] at hA); rw [shape2 hx0 hx1]; exact Tn.empty hA.1 hA.2.2) | exact RuleR.of (by rw [vEq_iff, decide_eq_true_iff]; simp only [App, e0, e1, IsC, oneOk, List.length_map]; (try simp only [InsV.d]); omega) (fun hA => by simp only [App, e0, e1, IsC, oneOk, List.length_map] at hA; (try simp only [InsV.d] at hA); rw [shape2 hx0 hx1]; exact Tn.empty hA.1 hA.2.2)), H.tl⟩
      replace c2 := vEq_f (c2)
      refine rStAS H 0 rfl rfl rfl rfl ?_
      clear H
      intro w1 H
      clear w2
      refine KeepP.mk (H.drop 0 (fun H => H)) ?_
      refine rdAN (H.at 0 rfl) 0 rfl rfl rfl ?_
      refine Done.mk ?_
      exact ⟨g, 2, _, [], _, rfl, Ext.refl _, FSl.nil0 _ _ _ _, (by first | exact RuleR.no (by intro hA; simp only [App, e0, e1, IsC, oneOk, List.length_map] at hA; (try simp only [InsV.d] at hA); omega) | exact RuleR.yes (by simp only [App, e0, e1, IsC, oneOk, List.length_map]; (try simp only [InsV.d]); omega) (fun hA => by simp only [App, e0, e1, IsC, oneOk, List.length_map] at hA; (try simp only [InsV.d] at hA); rw [shape2 hx0 hx1]; exact Tn.empty hA.1 hA.2.2) | exact RuleR.of (by rw [vEq_iff, decide_eq_true_iff]; simp only [App, e0, e1, IsC, oneOk, List.length_map]; (try simp only [InsV.d]); omega) (fun hA => by simp only [App, e0, e1, IsC, oneOk, List.length_map] at hA; (try simp only [InsV.d] at hA); rw [shape2 hx0 hx1]; exact Tn.empty hA.1 hA.2.2)), H.tl⟩
    replace c1 := vEq_f (c1)
    refine rIxE E1 rfl rfl rfl ?_
    refine rFieldAt rfl ?_
    refine rLd (H.fat F1) 0 rfl rfl rfl ?_
    refine drawzS H [0] [(0, .pure), (1, .pure), (2, .pure), (3, .pure), (4, .pure), (5, .pure), (6, .held), (7, .pure), (8, .pure), (9, .pure), (10, .pure), (11, .pure), (12, .pure), (13, .held), (14, .pure), (15, .pure), (16, .forced), (17, .pure)] mixed (by kernel_rfl) (by kernel_rfl) ?_
    clear H
    intro w2 H
    clear w1
    refine tk (fun wx HS => rBuild rfl rfl rfl ⟨rfl, rfl⟩) ?_
    refine br (fun c2 => ?_) (fun c2 => ?_)
    · replace c2 := vEq_t (c2)
      refine tk (fun wx HS => rIxE E1 rfl rfl rfl ⟨rfl, rfl⟩) ?_
      refine tk (fun wx HS => rFieldAt rfl ⟨rfl, rfl⟩) ?_
      refine tk (fun wx HS => rLd (HS.fat F1) 1 rfl rfl rfl ⟨rfl, rfl⟩) ?_
      refine br (fun c3 => ?_) (fun c3 => ?_)
      · replace c3 := vEq_t (c3)
        obtain ⟨b2, o2, E2, F2, hok2⟩ := FSl.elt hx hx1
        have hok2_op := hok2.op
        have hok2_a := hok2.a
        have hok2_b := hok2.b
        have hok2_to := hok2.to
        refine tk (fun wx HS => rIxE E2 rfl rfl rfl ⟨rfl, rfl⟩) ?_
        refine tk (fun wx HS => rFieldAt rfl ⟨rfl, rfl⟩) ?_
        refine tk (fun wx HS => rLd (HS.fat F2) 0 rfl rfl rfl ⟨rfl, rfl⟩) ?_
        refine rStAS H 0 rfl rfl rfl rfl ?_
        clear H
        intro w1 H
        clear w2
        refine KeepP.mk (H.drop 0 (fun H => H)) ?_
        refine rdAN (H.at 0 rfl) 0 rfl rfl rfl ?_
        refine Done.mk ?_
        exact ⟨g, 2, _, [], _, rfl, Ext.refl _, FSl.nil0 _ _ _ _, (by first | exact RuleR.no (by intro hA; simp only [App, e0, e1, IsC, oneOk, List.length_map] at hA; (try simp only [InsV.d] at hA); omega) | exact RuleR.yes (by simp only [App, e0, e1, IsC, oneOk, List.length_map]; (try simp only [InsV.d]); omega) (fun hA => by simp only [App, e0, e1, IsC, oneOk, List.length_map] at hA; (try simp only [InsV.d] at hA); rw [shape2 hx0 hx1]; exact Tn.empty hA.1 hA.2.2) | exact RuleR.of (by rw [vEq_iff, decide_eq_true_iff]; simp only [App, e0, e1, IsC, oneOk, List.length_map]; (try simp only [InsV.d]); omega) (fun hA => by simp only [App, e0, e1, IsC, oneOk, List.length_map] at hA; (try simp only [InsV.d] at hA); rw [shape2 hx0 hx1]; exact Tn.empty hA.1 hA.2.2)), H.tl⟩
      replace c3 := vEq_f (c3)
      refine rStAS H 0 rfl rfl rfl rfl ?_
      clear H
      intro w1 H
      clear w2
      refine KeepP.mk (H.drop 0 (fun H => H)) ?_
      refine rdAN (H.at 0 rfl) 0 rfl rfl rfl ?_
      refine Done.mk ?_
      exact ⟨g, 2, _, [], _, rfl, Ext.refl _, FSl.nil0 _ _ _ _, (by first | exact RuleR.no (by intro hA; simp only [App, e0, e1, IsC, oneOk, List.length_map] at hA; (try simp only [InsV.d] at hA); omega) | exact RuleR.yes (by simp only [App, e0, e1, IsC, oneOk, List.length_map]; (try simp only [InsV.d]); omega) (fun hA => by simp only [App, e0, e1, IsC, oneOk, List.length_map] at hA; (try simp only [InsV.d] at hA); rw [shape2 hx0 hx1]; exact Tn.empty hA.1 hA.2.2) | exact RuleR.of (by rw [vEq_iff, decide_eq_true_iff]; simp only [App, e0, e1, IsC, oneOk, List.length_map]; (try simp only [InsV.d]); omega) (fun hA => by simp only [App, e0, e1, IsC, oneOk, List.length_map] at hA; (try simp only [InsV.d] at hA); rw [shape2 hx0 hx1]; exact Tn.empty hA.1 hA.2.2)), H.tl⟩
    replace c2 := vEq_f (c2)
    refine rStAS H 0 rfl rfl rfl rfl ?_
    clear H
    intro w1 H
    clear w2
    refine KeepP.mk (H.drop 0 (fun H => H)) ?_
    refine rdAN (H.at 0 rfl) 0 rfl rfl rfl ?_
    refine Done.mk ?_
    exact ⟨g, 2, _, [], _, rfl, Ext.refl _, FSl.nil0 _ _ _ _, (by first | exact RuleR.no (by intro hA; simp only [App, e0, e1, IsC, oneOk, List.length_map] at hA; (try simp only [InsV.d] at hA); omega) | exact RuleR.yes (by simp only [App, e0, e1, IsC, oneOk, List.length_map]; (try simp only [InsV.d]); omega) (fun hA => by simp only [App, e0, e1, IsC, oneOk, List.length_map] at hA; (try simp only [InsV.d] at hA); rw [shape2 hx0 hx1]; exact Tn.empty hA.1 hA.2.2) | exact RuleR.of (by rw [vEq_iff, decide_eq_true_iff]; simp only [App, e0, e1, IsC, oneOk, List.length_map]; (try simp only [InsV.d]); omega) (fun hA => by simp only [App, e0, e1, IsC, oneOk, List.length_map] at hA; (try simp only [InsV.d] at hA); rw [shape2 hx0 hx1]; exact Tn.empty hA.1 hA.2.2)), H.tl⟩
  · have h11 : x.op = 11 := Decidable.by_contra fun h => h2 (len2 hx0 hr h)
    refine rAllocS H rfl ?_
    clear H
    intro p1 w1 H
    obtain ⟨b1, o1, E1, F1, hok1⟩ := FSl.elt hx hx0
    have hok1_op := hok1.op
    have hok1_a := hok1.a
    have hok1_b := hok1.b
    have hok1_to := hok1.to
    refine rIxE E1 rfl rfl rfl ?_
    refine rFieldAt rfl ?_
    refine rLd (H.fat F1) 0 rfl rfl rfl ?_
    refine br_f (vEq_F (by omega)) ?_
    refine rIxE E1 rfl rfl rfl ?_
    refine rFieldAt rfl ?_
    refine rLd (H.fat F1) 0 rfl rfl rfl ?_
    refine drawzS H [0] [(0, .pure), (1, .pure), (2, .pure), (3, .pure), (4, .pure), (5, .pure), (6, .held), (7, .pure), (8, .pure), (9, .pure), (10, .pure), (11, .pure), (12, .pure), (13, .held), (14, .pure), (15, .pure), (16, .forced), (17, .pure)] mixed (by kernel_rfl) (by kernel_rfl) ?_
    clear H
    intro w2 H
    clear w1
    refine tk (fun wx HS => rBuild rfl rfl rfl ⟨rfl, rfl⟩) ?_
    refine br_f (vEq_F (by omega)) ?_
    refine rStAS H 0 rfl rfl rfl rfl ?_
    clear H
    intro w1 H
    clear w2
    refine KeepP.mk (H.drop 0 (fun H => H)) ?_
    refine rdAN (H.at 0 rfl) 0 rfl rfl rfl ?_
    refine Done.mk ?_
    exact ⟨g, 2, _, [], _, rfl, Ext.refl _, FSl.nil0 _ _ _ _, (by first | exact RuleR.no (by intro hA; simp only [App, e0, IsC, oneOk, List.length_map] at hA; (try simp only [InsV.d] at hA); omega) | exact RuleR.yes (by simp only [App, e0, IsC, oneOk, List.length_map]; (try simp only [InsV.d]); omega) (fun hA => by simp only [App, e0, IsC, oneOk, List.length_map] at hA; (try simp only [InsV.d] at hA); omega) | exact RuleR.of (by rw [vEq_iff, decide_eq_true_iff]; simp only [App, e0, IsC, oneOk, List.length_map]; (try simp only [InsV.d]); omega) (fun hA => by simp only [App, e0, IsC, oneOk, List.length_map] at hA; (try simp only [InsV.d] at hA); omega)), H.tl⟩
theorem rule9 (H : Sat g w l) (v : Value) (xs : List InsV) (hx : FSl g enV (okV g) 4 v xs) (z : Int) (s : List Int) (hr : run (xs.map InsV.d) (z :: s) = some []) (hl : xs.length ≤ 200) (hp : 0 < xs.length) : Fc Tryd.prog 134 #[v] w (fun r w' => ∃ (g' : Glob) (gone : Nat) (nv : Value) (news : List InsV) (b : Bool), r = .tuple #[.agg #[.int .i64 gone, nv], .bool b] ∧ Ext g g' ∧ FSl g' enV (okV g') 4 nv news ∧ RuleR 9 (xs.map InsV.d) gone (news.map InsV.d) b ∧ Sat g' w' l) := by
  obtain ⟨x, hx0⟩ : ∃ x, xs[0]? = some x := ⟨_, List.getElem?_eq_getElem hp⟩
  have hxo := FSl.all hx x (List.mem_of_getElem? hx0)
  have hxo_op := hxo.op
  have hxo_a := hxo.a
  have e0 := i0_map hx0
  refine Fc.of Tryd.func134 rfl (by kernel_rfl) ?_
  by_cases h2 : 2 ≤ xs.length
  · skip
    obtain ⟨y, hx1⟩ : ∃ y, xs[1]? = some y := ⟨_, List.getElem?_eq_getElem (by omega)⟩
    have hyo := FSl.all hx y (List.mem_of_getElem? hx1)
    have hyo_op := hyo.op
    have hyo_a := hyo.a
    have e1 := i1_map hx1
    refine rAllocS H rfl ?_
    clear H
    intro p1 w1 H
    obtain ⟨b1, o1, E1, F1, hok1⟩ := FSl.elt hx hx0
    have hok1_op := hok1.op
    have hok1_a := hok1.a
    have hok1_b := hok1.b
    have hok1_to := hok1.to
    refine rIxE E1 rfl rfl rfl ?_
    refine rFieldAt rfl ?_
    refine rLd (H.fat F1) 0 rfl rfl rfl ?_
    refine br (fun c1 => ?_) (fun c1 => ?_)
    · replace c1 := vEq_t (c1)
      obtain ⟨b2, o2, E2, F2, hok2⟩ := FSl.elt hx hx1
      have hok2_op := hok2.op
      have hok2_a := hok2.a
      have hok2_b := hok2.b
      have hok2_to := hok2.to
      refine rIxE E2 rfl rfl rfl ?_
      refine rFieldAt rfl ?_
      refine rLd (H.fat F2) 0 rfl rfl rfl ?_
      refine rIxE E1 rfl rfl rfl ?_
      refine rFieldAt rfl ?_
      refine rLd (H.fat F1) 1 rfl rfl rfl ?_
      refine rBuild rfl rfl rfl ?_
      refine rBuildSliceS H rfl rfl rfl rfl ?_
      clear H
      intro p2 w2 H
      clear w1
      refine rBuild rfl rfl rfl ?_
      refine rStAS H 1 rfl rfl rfl rfl ?_
      clear H
      intro w1 H
      clear w2
      refine rdAN (H.at 1 rfl) 0 rfl rfl rfl ?_
      refine Done.mk ?_
      (refine H.ptSl (n := 1) (en := enV) (s := 4) 0 rfl [⟨33, x.a, 0, .slice none 0 0, []⟩] rfl rfl (fun _ => rfl) rfl ?_; intro H1; refine H1.frz1 0 (okV g) rfl (one_ok ⟨show U8 33 by decide, hxo_a, show I64 0 by decide, FSl.nil0 _ _ _ _⟩) ?_; intro g1 HE hf H2; exact ⟨g1, 2, _, [⟨33, x.a, 0, .slice none 0 0, []⟩], _, rfl, HE, hf.okm (fun _ _ h => h.ext HE), (by first | exact RuleR.no (by intro hA; simp only [App, e0, e1, IsC, oneOk, List.length_map] at hA; (try simp only [InsV.d] at hA); omega) | exact RuleR.yes (by simp only [App, e0, e1, IsC, oneOk, List.length_map]; (try simp only [InsV.d]); omega) (fun hA => by simp only [App, e0, e1, IsC, oneOk, List.length_map] at hA; (try simp only [InsV.d] at hA); rw [shape2 hx0 hx1]; exact Tn.lost hA.1 hA.2) | exact RuleR.of (by rw [vEq_iff, decide_eq_true_iff]; simp only [App, e0, e1, IsC, oneOk, List.length_map]; (try simp only [InsV.d]); omega) (fun hA => by simp only [App, e0, e1, IsC, oneOk, List.length_map] at hA; (try simp only [InsV.d] at hA); rw [shape2 hx0 hx1]; exact Tn.lost hA.1 hA.2)), H2.tl⟩)
    replace c1 := vEq_f (c1)
    refine rIxE E1 rfl rfl rfl ?_
    refine rFieldAt rfl ?_
    refine rLd (H.fat F1) 1 rfl rfl rfl ?_
    refine rBuild rfl rfl rfl ?_
    refine rBuildSliceS H rfl rfl rfl rfl ?_
    clear H
    intro p2 w2 H
    clear w1
    refine rBuild rfl rfl rfl ?_
    refine rStAS H 1 rfl rfl rfl rfl ?_
    clear H
    intro w1 H
    clear w2
    refine rdAN (H.at 1 rfl) 0 rfl rfl rfl ?_
    refine Done.mk ?_
    (refine H.ptSl (n := 1) (en := enV) (s := 4) 0 rfl [⟨33, x.a, 0, .slice none 0 0, []⟩] rfl rfl (fun _ => rfl) rfl ?_; intro H1; refine H1.frz1 0 (okV g) rfl (one_ok ⟨show U8 33 by decide, hxo_a, show I64 0 by decide, FSl.nil0 _ _ _ _⟩) ?_; intro g1 HE hf H2; exact ⟨g1, 2, _, [⟨33, x.a, 0, .slice none 0 0, []⟩], _, rfl, HE, hf.okm (fun _ _ h => h.ext HE), (by first | exact RuleR.no (by intro hA; simp only [App, e0, e1, IsC, oneOk, List.length_map] at hA; (try simp only [InsV.d] at hA); omega) | exact RuleR.yes (by simp only [App, e0, e1, IsC, oneOk, List.length_map]; (try simp only [InsV.d]); omega) (fun hA => by simp only [App, e0, e1, IsC, oneOk, List.length_map] at hA; (try simp only [InsV.d] at hA); rw [shape2 hx0 hx1]; exact Tn.lost hA.1 hA.2) | exact RuleR.of (by rw [vEq_iff, decide_eq_true_iff]; simp only [App, e0, e1, IsC, oneOk, List.length_map]; (try simp only [InsV.d]); omega) (fun hA => by simp only [App, e0, e1, IsC, oneOk, List.length_map] at hA; (try simp only [InsV.d] at hA); rw [shape2 hx0 hx1]; exact Tn.lost hA.1 hA.2)), H2.tl⟩)
  · have h11 : x.op = 11 := Decidable.by_contra fun h => h2 (len2 hx0 hr h)
    refine rAllocS H rfl ?_
    clear H
    intro p1 w1 H
    obtain ⟨b1, o1, E1, F1, hok1⟩ := FSl.elt hx hx0
    have hok1_op := hok1.op
    have hok1_a := hok1.a
    have hok1_b := hok1.b
    have hok1_to := hok1.to
    refine rIxE E1 rfl rfl rfl ?_
    refine rFieldAt rfl ?_
    refine rLd (H.fat F1) 0 rfl rfl rfl ?_
    refine br_f (vEq_F (by omega)) ?_
    refine rIxE E1 rfl rfl rfl ?_
    refine rFieldAt rfl ?_
    refine rLd (H.fat F1) 1 rfl rfl rfl ?_
    refine rBuild rfl rfl rfl ?_
    refine rBuildSliceS H rfl rfl rfl rfl ?_
    clear H
    intro p2 w2 H
    clear w1
    refine rBuild rfl rfl rfl ?_
    refine rStAS H 1 rfl rfl rfl rfl ?_
    clear H
    intro w1 H
    clear w2
    refine rdAN (H.at 1 rfl) 0 rfl rfl rfl ?_
    refine Done.mk ?_
    (refine H.ptSl (n := 1) (en := enV) (s := 4) 0 rfl [⟨33, x.a, 0, .slice none 0 0, []⟩] rfl rfl (fun _ => rfl) rfl ?_; intro H1; refine H1.frz1 0 (okV g) rfl (one_ok ⟨show U8 33 by decide, hxo_a, show I64 0 by decide, FSl.nil0 _ _ _ _⟩) ?_; intro g1 HE hf H2; exact ⟨g1, 2, _, [⟨33, x.a, 0, .slice none 0 0, []⟩], _, rfl, HE, hf.okm (fun _ _ h => h.ext HE), (by first | exact RuleR.no (by intro hA; simp only [App, e0, IsC, oneOk, List.length_map] at hA; (try simp only [InsV.d] at hA); omega) | exact RuleR.yes (by simp only [App, e0, IsC, oneOk, List.length_map]; (try simp only [InsV.d]); omega) (fun hA => by simp only [App, e0, IsC, oneOk, List.length_map] at hA; (try simp only [InsV.d] at hA); omega) | exact RuleR.of (by rw [vEq_iff, decide_eq_true_iff]; simp only [App, e0, IsC, oneOk, List.length_map]; (try simp only [InsV.d]); omega) (fun hA => by simp only [App, e0, IsC, oneOk, List.length_map] at hA; (try simp only [InsV.d] at hA); omega)), H2.tl⟩)
theorem rule10 (H : Sat g w l) (v : Value) (xs : List InsV) (hx : FSl g enV (okV g) 4 v xs) (z : Int) (s : List Int) (hr : run (xs.map InsV.d) (z :: s) = some []) (hl : xs.length ≤ 200) (hp : 0 < xs.length) : Fc Tryd.prog 135 #[v] w (fun r w' => ∃ (g' : Glob) (gone : Nat) (nv : Value) (news : List InsV) (b : Bool), r = .tuple #[.agg #[.int .i64 gone, nv], .bool b] ∧ Ext g g' ∧ FSl g' enV (okV g') 4 nv news ∧ RuleR 10 (xs.map InsV.d) gone (news.map InsV.d) b ∧ Sat g' w' l) := by
  obtain ⟨x, hx0⟩ : ∃ x, xs[0]? = some x := ⟨_, List.getElem?_eq_getElem hp⟩
  have hxo := FSl.all hx x (List.mem_of_getElem? hx0)
  have hxo_op := hxo.op
  have hxo_a := hxo.a
  have e0 := i0_map hx0
  refine Fc.of Tryd.func135 rfl (by kernel_rfl) ?_
  by_cases h2 : 2 ≤ xs.length
  · skip
    obtain ⟨y, hx1⟩ : ∃ y, xs[1]? = some y := ⟨_, List.getElem?_eq_getElem (by omega)⟩
    have hyo := FSl.all hx y (List.mem_of_getElem? hx1)
    have hyo_op := hyo.op
    have hyo_a := hyo.a
    have e1 := i1_map hx1
    refine rAllocS H rfl ?_
    clear H
    intro p1 w1 H
    obtain ⟨b1, o1, E1, F1, hok1⟩ := FSl.elt hx hx0
    have hok1_op := hok1.op
    have hok1_a := hok1.a
    have hok1_b := hok1.b
    have hok1_to := hok1.to
    refine rIxE E1 rfl rfl rfl ?_
    refine rLdA (H.fat F1) 0 rfl rfl rfl ?_
    refine CallP.mk (Fc.imp (Go.Proofs.YtcpniokopahakaaDoor.Fold.isNumberX H _ ?_) ?_)
    · assumption
    clear H
    rintro _ w2 ⟨b2, ⟨rfl, ⟨h1, H⟩⟩⟩
    refine br (fun c1 => ?_) (fun c1 => ?_)
    · replace c1 := h1.1 (c1)
      refine rIxE E1 rfl rfl rfl ?_
      refine rFieldAt rfl ?_
      refine rLd (H.fat F1) 1 rfl rfl rfl ?_
      refine br (fun c2 => ?_) (fun c2 => ?_)
      · replace c2 := vNe_t (c2)
        refine rLenF hx rfl ?_
        refine br_t (vLt_T (by omega)) ?_
        obtain ⟨b3, o2, E2, F2, hok2⟩ := FSl.elt hx hx1
        have hok2_op := hok2.op
        have hok2_a := hok2.a
        have hok2_b := hok2.b
        have hok2_to := hok2.to
        refine rIxE E2 rfl rfl rfl ?_
        refine rFieldAt rfl ?_
        refine rLd (H.fat F2) 0 rfl rfl rfl ?_
        refine rBuild rfl rfl rfl ?_
        refine rBuildSliceS H rfl rfl rfl rfl ?_
        clear H
        intro p2 w3 H
        clear w2
        refine rBuild rfl rfl rfl ?_
        refine rStAS H 1 rfl rfl rfl rfl ?_
        clear H
        intro w2 H
        clear w3
        refine rdAN (H.at 1 rfl) 0 rfl rfl rfl ?_
        refine Done.mk ?_
        (refine H.ptSl (n := 1) (en := enV) (s := 4) 0 rfl [⟨26, 0, 0, .slice none 0 0, []⟩] rfl rfl (fun _ => rfl) rfl ?_; intro H1; refine H1.frz1 0 (okV g) rfl (one_ok ⟨show U8 26 by decide, show I64 0 by decide, show I64 0 by decide, FSl.nil0 _ _ _ _⟩) ?_; intro g1 HE hf H2; exact ⟨g1, 2, _, [⟨26, 0, 0, .slice none 0 0, []⟩], _, rfl, HE, hf.okm (fun _ _ h => h.ext HE), (by first | exact RuleR.no (by intro hA; simp only [App, e0, e1, IsC, oneOk, List.length_map] at hA; (try simp only [InsV.d] at hA); omega) | exact RuleR.yes (by simp only [App, e0, e1, IsC, oneOk, List.length_map]; (try simp only [InsV.d]); omega) (fun hA => by simp only [App, e0, e1, IsC, oneOk, List.length_map] at hA; (try simp only [InsV.d] at hA); rw [shape2 hx0 hx1]; exact Tn.chosen hA.1 hA.2.2.2) | exact RuleR.of (by rw [vEq_iff, decide_eq_true_iff]; simp only [App, e0, e1, IsC, oneOk, List.length_map]; (try simp only [InsV.d]); omega) (fun hA => by simp only [App, e0, e1, IsC, oneOk, List.length_map] at hA; (try simp only [InsV.d] at hA); rw [shape2 hx0 hx1]; exact Tn.chosen hA.1 hA.2.2.2)), H2.tl⟩)
      replace c2 := vNe_f (c2)
      refine rBuild rfl rfl rfl ?_
      refine rBuildSliceS H rfl rfl rfl rfl ?_
      clear H
      intro p2 w3 H
      clear w2
      refine rBuild rfl rfl rfl ?_
      refine rStAS H 1 rfl rfl rfl rfl ?_
      clear H
      intro w2 H
      clear w3
      refine rdAN (H.at 1 rfl) 0 rfl rfl rfl ?_
      refine Done.mk ?_
      (refine H.ptSl (n := 1) (en := enV) (s := 4) 0 rfl [⟨26, 0, 0, .slice none 0 0, []⟩] rfl rfl (fun _ => rfl) rfl ?_; intro H1; refine H1.frz1 0 (okV g) rfl (one_ok ⟨show U8 26 by decide, show I64 0 by decide, show I64 0 by decide, FSl.nil0 _ _ _ _⟩) ?_; intro g1 HE hf H2; exact ⟨g1, 2, _, [⟨26, 0, 0, .slice none 0 0, []⟩], _, rfl, HE, hf.okm (fun _ _ h => h.ext HE), (by first | exact RuleR.no (by intro hA; simp only [App, e0, e1, IsC, oneOk, List.length_map] at hA; (try simp only [InsV.d] at hA); omega) | exact RuleR.yes (by simp only [App, e0, e1, IsC, oneOk, List.length_map]; (try simp only [InsV.d]); omega) (fun hA => by simp only [App, e0, e1, IsC, oneOk, List.length_map] at hA; (try simp only [InsV.d] at hA); rw [shape2 hx0 hx1]; exact Tn.chosen hA.1 hA.2.2.2) | exact RuleR.of (by rw [vEq_iff, decide_eq_true_iff]; simp only [App, e0, e1, IsC, oneOk, List.length_map]; (try simp only [InsV.d]); omega) (fun hA => by simp only [App, e0, e1, IsC, oneOk, List.length_map] at hA; (try simp only [InsV.d] at hA); rw [shape2 hx0 hx1]; exact Tn.chosen hA.1 hA.2.2.2)), H2.tl⟩)
    replace c1 := iff_f h1 (c1)
    refine rBuild rfl rfl rfl ?_
    refine rBuildSliceS H rfl rfl rfl rfl ?_
    clear H
    intro p2 w3 H
    clear w2
    refine rBuild rfl rfl rfl ?_
    refine rStAS H 1 rfl rfl rfl rfl ?_
    clear H
    intro w2 H
    clear w3
    refine rdAN (H.at 1 rfl) 0 rfl rfl rfl ?_
    refine Done.mk ?_
    (refine H.ptSl (n := 1) (en := enV) (s := 4) 0 rfl [⟨26, 0, 0, .slice none 0 0, []⟩] rfl rfl (fun _ => rfl) rfl ?_; intro H1; refine H1.frz1 0 (okV g) rfl (one_ok ⟨show U8 26 by decide, show I64 0 by decide, show I64 0 by decide, FSl.nil0 _ _ _ _⟩) ?_; intro g1 HE hf H2; exact ⟨g1, 2, _, [⟨26, 0, 0, .slice none 0 0, []⟩], _, rfl, HE, hf.okm (fun _ _ h => h.ext HE), (by first | exact RuleR.no (by intro hA; simp only [App, e0, e1, IsC, oneOk, List.length_map] at hA; (try simp only [InsV.d] at hA); omega) | exact RuleR.yes (by simp only [App, e0, e1, IsC, oneOk, List.length_map]; (try simp only [InsV.d]); omega) (fun hA => by simp only [App, e0, e1, IsC, oneOk, List.length_map] at hA; (try simp only [InsV.d] at hA); rw [shape2 hx0 hx1]; exact Tn.chosen hA.1 hA.2.2.2) | exact RuleR.of (by rw [vEq_iff, decide_eq_true_iff]; simp only [App, e0, e1, IsC, oneOk, List.length_map]; (try simp only [InsV.d]); omega) (fun hA => by simp only [App, e0, e1, IsC, oneOk, List.length_map] at hA; (try simp only [InsV.d] at hA); rw [shape2 hx0 hx1]; exact Tn.chosen hA.1 hA.2.2.2)), H2.tl⟩)
  · have h11 : x.op = 11 := Decidable.by_contra fun h => h2 (len2 hx0 hr h)
    refine rAllocS H rfl ?_
    clear H
    intro p1 w1 H
    obtain ⟨b1, o1, E1, F1, hok1⟩ := FSl.elt hx hx0
    have hok1_op := hok1.op
    have hok1_a := hok1.a
    have hok1_b := hok1.b
    have hok1_to := hok1.to
    refine rIxE E1 rfl rfl rfl ?_
    refine rLdA (H.fat F1) 0 rfl rfl rfl ?_
    refine CallP.mk (Fc.imp (Go.Proofs.YtcpniokopahakaaDoor.Fold.isNumberX H _ ?_) ?_)
    · assumption
    clear H
    rintro _ w2 ⟨b2, ⟨rfl, ⟨h1, H⟩⟩⟩
    refine br_f (iff_F h1 (by omega)) ?_
    refine rBuild rfl rfl rfl ?_
    refine rBuildSliceS H rfl rfl rfl rfl ?_
    clear H
    intro p2 w3 H
    clear w2
    refine rBuild rfl rfl rfl ?_
    refine rStAS H 1 rfl rfl rfl rfl ?_
    clear H
    intro w2 H
    clear w3
    refine rdAN (H.at 1 rfl) 0 rfl rfl rfl ?_
    refine Done.mk ?_
    (refine H.ptSl (n := 1) (en := enV) (s := 4) 0 rfl [⟨26, 0, 0, .slice none 0 0, []⟩] rfl rfl (fun _ => rfl) rfl ?_; intro H1; refine H1.frz1 0 (okV g) rfl (one_ok ⟨show U8 26 by decide, show I64 0 by decide, show I64 0 by decide, FSl.nil0 _ _ _ _⟩) ?_; intro g1 HE hf H2; exact ⟨g1, 2, _, [⟨26, 0, 0, .slice none 0 0, []⟩], _, rfl, HE, hf.okm (fun _ _ h => h.ext HE), (by first | exact RuleR.no (by intro hA; simp only [App, e0, IsC, oneOk, List.length_map] at hA; (try simp only [InsV.d] at hA); omega) | exact RuleR.yes (by simp only [App, e0, IsC, oneOk, List.length_map]; (try simp only [InsV.d]); omega) (fun hA => by simp only [App, e0, IsC, oneOk, List.length_map] at hA; (try simp only [InsV.d] at hA); omega) | exact RuleR.of (by rw [vEq_iff, decide_eq_true_iff]; simp only [App, e0, IsC, oneOk, List.length_map]; (try simp only [InsV.d]); omega) (fun hA => by simp only [App, e0, IsC, oneOk, List.length_map] at hA; (try simp only [InsV.d] at hA); omega)), H2.tl⟩)
end
end Go.Proofs.YtcpniokopahakaaDoor.Fold
/- Package fold: dead, choice. -/
set_option maxRecDepth 100000
set_option maxHeartbeats 4000000
set_option linter.unusedVariables false
set_option linter.unusedSimpArgs false
namespace Go.Proofs.YtcpniokopahakaaDoor.Fold
open Go Go.Proofs.YtcpniokopahakaaDoor.Eng Go.RowKit
open Ins Nest Leb Bin Valid
theorem tail1 {xs : List InsV} {x y : InsV} (h : xs[0]? = some x) (h1 : xs[1]? = some y) : List.map InsV.d (List.drop 1 (List.take xs.length xs)) = y.d :: (xs.map InsV.d).drop 2 := by
  rw [List.take_length]
  match xs, h, h1 with
  | a :: b :: r, h, h1 => rw [show b = y from Option.some.inj h1]; rfl
theorem head1 {xs : List InsV} {x : InsV} (h : xs[0]? = some x) : List.map InsV.d (List.drop 0 (List.take 1 xs)) = [x.d] := by
  cases xs with
  | nil => cases h
  | cons a r => rw [show a = x from Option.some.inj h]; simp
theorem R5 {xs : List InsV} {x y : InsV} (hx0 : xs[0]? = some x) (hx1 : xs[1]? = some y) (hA : App 5 (xs.map InsV.d)) {n : Nat} (hn : n = spn 0 (List.map InsV.d (List.drop 1 (List.take xs.length xs)))) : RuleR 5 (xs.map InsV.d) (1 + n) (List.map InsV.d (List.drop 0 (List.take 1 xs))) true := by
  refine RuleR.yes hA fun _ => ?_
  have e0 := i0_map hx0
  have e1 := i1_map hx1
  simp only [App, e0, e1] at hA
  rw [tail1 hx0 hx1, spn] at hn
  rw [head1 hx0, shape2 hx0 hx1]
  by_cases ho : Opn y.d
  · rw [show dd y.d = 1 from if_pos ho, if_neg (by decide), Int.zero_add] at hn
    rw [hn, show 1 + (1 + spn 1 ((xs.map InsV.d).drop 2)) = 2 + spn 1 ((xs.map InsV.d).drop 2) by omega]
    exact Tn.dead hA.1 ho
  · have hd : dd y.d = 0 := by unfold dd; rw [if_neg ho, if_neg hA.2.1]
    rw [hd, if_pos (by decide)] at hn
    rw [hn]
    exact Tn.dead1 hA.1 hA.2.1 hA.2.2 ho
/-- Where the halves and the end of an if are. -/
structure Cho (r : List InsD) (n h : Nat) : Prop where
  en : n = 1 + spn 1 r
  eh : h = 1 + oth 1 r
  lt : h < n
  le : n ≤ r.length + 1
theorem cho_of {xs : List InsV} {x y : InsV} {z : Int} {s : List Int} (hx0 : xs[0]? = some x) (hx1 : xs[1]? = some y) (hr : run (xs.map InsV.d) (z :: s) = some []) (h65 : x.op = 65) (h4 : y.op = 4) : Cho ((xs.map InsV.d).drop 2) (spn 0 (List.map InsV.d (List.drop 1 (List.take xs.length xs)))) (oth 0 (List.map InsV.d (List.drop 1 (List.take xs.length xs)))) := by
  rw [shape2 hx0 hx1] at hr
  have hf : FlatI x.d := ⟨chk_at hr, by
    have h65 : x.d.op = 65 := h65
    unfold Opn; omega⟩
  have r2 := run_tail hf hr
  have h4 : y.d.op = 4 := h4
  have ho : Opn y.d := .inr (.inr h4)
  have hd : dd y.d = 1 := if_pos ho
  generalize hR : (xs.map InsV.d).drop 2 = r at r2
  have e := tail1 hx0 hx1
  rw [hR] at e
  rw [e, spn, oth, hd, if_neg (by decide), if_neg (by omega)]
  rcases block_at ho r2 with ⟨A, e, R, rfl, _, _, _, _, _, hs, hot⟩ | ⟨A, q, B, e, R, _, rfl, _, _, _, _, _, _, _, _, hs, hot⟩
  · exact ⟨rfl, rfl, by simp only [Int.zero_add]; rw [hs, hot]; omega, by simp only [Int.zero_add]; rw [hs]; simp; omega⟩
  · exact ⟨rfl, rfl, by simp only [Int.zero_add]; rw [hs, hot]; omega, by simp only [Int.zero_add]; rw [hs]; simp; omega⟩
section
variable {g : Glob} {w : World} {l : List As}
theorem rule5 (H : Sat g w l) (v : Value) (xs : List InsV) (hx : FSl g enV (okV g) 4 v xs) (z : Int) (s : List Int) (hr : run (xs.map InsV.d) (z :: s) = some []) (hl : xs.length ≤ 200) (hp : 0 < xs.length) : Fc Tryd.prog 130 #[v] w (fun r w' => ∃ (g' : Glob) (gone : Nat) (nv : Value) (news : List InsV) (b : Bool), r = .tuple #[.agg #[.int .i64 gone, nv], .bool b] ∧ Ext g g' ∧ FSl g' enV (okV g') 4 nv news ∧ RuleR 5 (xs.map InsV.d) gone (news.map InsV.d) b ∧ Sat g' w' l) := by
  obtain ⟨x, hx0⟩ : ∃ x, xs[0]? = some x := ⟨_, List.getElem?_eq_getElem hp⟩
  have hxo := FSl.all hx x (List.mem_of_getElem? hx0)
  have hxo_op := hxo.op
  have hxo_a := hxo.a
  have e0 := i0_map hx0
  refine Fc.of Tryd.func130 rfl (by kernel_rfl) ?_
  by_cases h2 : 2 ≤ xs.length
  · skip
    obtain ⟨y, hx1⟩ : ∃ y, xs[1]? = some y := ⟨_, List.getElem?_eq_getElem (by omega)⟩
    have hyo := FSl.all hx y (List.mem_of_getElem? hx1)
    have hyo_op := hyo.op
    have hyo_a := hyo.a
    have e1 := i1_map hx1
    refine rAllocS H rfl ?_
    clear H
    intro p1 w1 H
    obtain ⟨b1, o1, E1, F1, hok1⟩ := FSl.elt hx hx0
    have hok1_op := hok1.op
    have hok1_a := hok1.a
    have hok1_b := hok1.b
    have hok1_to := hok1.to
    refine rIxE E1 rfl rfl rfl ?_
    refine rFieldAt rfl ?_
    refine rLd (H.fat F1) 0 rfl rfl rfl ?_
    refine bk ?_
    refine cI (fun c1 => ?_) (fun c1 => ?_)
    focus
      replace c1 := vEq_t (c1)
      refine cT (vEq_T (by assumption)) ?_
      obtain ⟨b2, o2, E2, F2, hok2⟩ := FSl.elt hx hx1
      have hok2_op := hok2.op
      have hok2_a := hok2.a
      have hok2_b := hok2.b
      have hok2_to := hok2.to
      refine rIxE E2 rfl rfl rfl ?_
      refine rFieldAt rfl ?_
      refine rLd (H.fat F2) 0 rfl rfl rfl ?_
      refine br (fun c2 => ?_) (fun c2 => ?_)
      · replace c2 := vEq_t (c2)
        refine cT rfl ?_
        refine rBuild rfl rfl rfl ?_
        refine rStAS H 0 rfl rfl rfl rfl ?_
        clear H
        intro w2 H
        clear w1
        refine rdAN (H.at 0 rfl) 0 rfl rfl rfl ?_
        refine Done.mk ?_
        exact ⟨g, 0, _, [], _, rfl, Ext.refl _, FSl.nil0 _ _ _ _, RuleR.no (by intro hA; simp only [App, e0, e1, IsC, List.length_map] at hA; (try simp only [InsV.d] at hA); omega), H.tl⟩
      replace c2 := vEq_f (c2)
      refine rIxE E2 rfl rfl rfl ?_
      refine rFieldAt rfl ?_
      refine rLd (H.fat F2) 0 rfl rfl rfl ?_
      refine cI (fun c3 => ?_) (fun c3 => ?_)
      · replace c3 := vEq_t (c3)
        refine rBuild rfl rfl rfl ?_
        refine rStAS H 0 rfl rfl rfl rfl ?_
        clear H
        intro w2 H
        clear w1
        refine rdAN (H.at 0 rfl) 0 rfl rfl rfl ?_
        refine Done.mk ?_
        exact ⟨g, 0, _, [], _, rfl, Ext.refl _, FSl.nil0 _ _ _ _, RuleR.no (by intro hA; simp only [App, e0, e1, IsC, List.length_map] at hA; (try simp only [InsV.d] at hA); omega), H.tl⟩
      replace c3 := vEq_f (c3)
      refine drawzS H [] [(0, .pure), (1, .pure), (4, .pure), (5, .pure), (2, .free), (3, .pure), (6, .pure), (7, .free), (8, .pure)] mixed (by kernel_rfl) (by kernel_rfl) ?_
      clear H
      intro w2 H
      clear w1
      refine tkSlF hx 1 (xs).length rfl rfl (by omega) (by omega) (.inr ⟨_, by first | rfl | (congr 2; omega)⟩) (.inl ⟨rfl, rfl⟩) ?_
      intro v1 hs1
      refine tkSlF hx 0 1 rfl rfl (by omega) (by omega) (.inl ⟨rfl, rfl⟩) (.inr ⟨_, by first | rfl | (congr 2; omega)⟩) ?_
      intro v2 hs2
      refine CallP.mk (Fc.imp (Go.Proofs.YtcpniokopahakaaDoor.Fold.spanX H _ _ hs1 ?_) ?_)
      · (simp; omega)
      clear H
      rintro _ w1 ⟨n1, ⟨rfl, ⟨h1, ⟨h3, H⟩⟩⟩⟩
      refine eqI64 (by omega) ?_
    rotate_left 1
    focus
      replace c1 := vEq_f (c1)
      refine cI (fun c2 => ?_) (fun c2 => ?_)
      focus
        replace c2 := vEq_t (c2)
        refine cT (vEq_T (by assumption)) ?_
        obtain ⟨b2, o2, E2, F2, hok2⟩ := FSl.elt hx hx1
        have hok2_op := hok2.op
        have hok2_a := hok2.a
        have hok2_b := hok2.b
        have hok2_to := hok2.to
        refine rIxE E2 rfl rfl rfl ?_
        refine rFieldAt rfl ?_
        refine rLd (H.fat F2) 0 rfl rfl rfl ?_
        refine br (fun c3 => ?_) (fun c3 => ?_)
        · replace c3 := vEq_t (c3)
          refine cT rfl ?_
          refine rBuild rfl rfl rfl ?_
          refine rStAS H 0 rfl rfl rfl rfl ?_
          clear H
          intro w2 H
          clear w1
          refine rdAN (H.at 0 rfl) 0 rfl rfl rfl ?_
          refine Done.mk ?_
          exact ⟨g, 0, _, [], _, rfl, Ext.refl _, FSl.nil0 _ _ _ _, RuleR.no (by intro hA; simp only [App, e0, e1, IsC, List.length_map] at hA; (try simp only [InsV.d] at hA); omega), H.tl⟩
        replace c3 := vEq_f (c3)
        refine rIxE E2 rfl rfl rfl ?_
        refine rFieldAt rfl ?_
        refine rLd (H.fat F2) 0 rfl rfl rfl ?_
        refine cI (fun c4 => ?_) (fun c4 => ?_)
        · replace c4 := vEq_t (c4)
          refine rBuild rfl rfl rfl ?_
          refine rStAS H 0 rfl rfl rfl rfl ?_
          clear H
          intro w2 H
          clear w1
          refine rdAN (H.at 0 rfl) 0 rfl rfl rfl ?_
          refine Done.mk ?_
          exact ⟨g, 0, _, [], _, rfl, Ext.refl _, FSl.nil0 _ _ _ _, RuleR.no (by intro hA; simp only [App, e0, e1, IsC, List.length_map] at hA; (try simp only [InsV.d] at hA); omega), H.tl⟩
        replace c4 := vEq_f (c4)
        refine drawzS H [] [(0, .pure), (1, .pure), (4, .pure), (5, .pure), (2, .free), (3, .pure), (6, .pure), (7, .free), (8, .pure)] mixed (by kernel_rfl) (by kernel_rfl) ?_
        clear H
        intro w2 H
        clear w1
        refine tkSlF hx 1 (xs).length rfl rfl (by omega) (by omega) (.inr ⟨_, by first | rfl | (congr 2; omega)⟩) (.inl ⟨rfl, rfl⟩) ?_
        intro v1 hs1
        refine tkSlF hx 0 1 rfl rfl (by omega) (by omega) (.inl ⟨rfl, rfl⟩) (.inr ⟨_, by first | rfl | (congr 2; omega)⟩) ?_
        intro v2 hs2
        refine CallP.mk (Fc.imp (Go.Proofs.YtcpniokopahakaaDoor.Fold.spanX H _ _ hs1 ?_) ?_)
        · (simp; omega)
        clear H
        rintro _ w1 ⟨n1, ⟨rfl, ⟨h1, ⟨h3, H⟩⟩⟩⟩
        refine eqI64 (by omega) ?_
      rotate_left 1
      focus
        replace c2 := vEq_f (c2)
        refine cI (fun c3 => ?_) (fun c3 => ?_)
        focus
          replace c3 := vEq_t (c3)
          refine cT (vEq_T (by assumption)) ?_
          obtain ⟨b2, o2, E2, F2, hok2⟩ := FSl.elt hx hx1
          have hok2_op := hok2.op
          have hok2_a := hok2.a
          have hok2_b := hok2.b
          have hok2_to := hok2.to
          refine rIxE E2 rfl rfl rfl ?_
          refine rFieldAt rfl ?_
          refine rLd (H.fat F2) 0 rfl rfl rfl ?_
          refine br (fun c4 => ?_) (fun c4 => ?_)
          · replace c4 := vEq_t (c4)
            refine cT rfl ?_
            refine rBuild rfl rfl rfl ?_
            refine rStAS H 0 rfl rfl rfl rfl ?_
            clear H
            intro w2 H
            clear w1
            refine rdAN (H.at 0 rfl) 0 rfl rfl rfl ?_
            refine Done.mk ?_
            exact ⟨g, 0, _, [], _, rfl, Ext.refl _, FSl.nil0 _ _ _ _, RuleR.no (by intro hA; simp only [App, e0, e1, IsC, List.length_map] at hA; (try simp only [InsV.d] at hA); omega), H.tl⟩
          replace c4 := vEq_f (c4)
          refine rIxE E2 rfl rfl rfl ?_
          refine rFieldAt rfl ?_
          refine rLd (H.fat F2) 0 rfl rfl rfl ?_
          refine cI (fun c5 => ?_) (fun c5 => ?_)
          · replace c5 := vEq_t (c5)
            refine rBuild rfl rfl rfl ?_
            refine rStAS H 0 rfl rfl rfl rfl ?_
            clear H
            intro w2 H
            clear w1
            refine rdAN (H.at 0 rfl) 0 rfl rfl rfl ?_
            refine Done.mk ?_
            exact ⟨g, 0, _, [], _, rfl, Ext.refl _, FSl.nil0 _ _ _ _, RuleR.no (by intro hA; simp only [App, e0, e1, IsC, List.length_map] at hA; (try simp only [InsV.d] at hA); omega), H.tl⟩
          replace c5 := vEq_f (c5)
          refine drawzS H [] [(0, .pure), (1, .pure), (4, .pure), (5, .pure), (2, .free), (3, .pure), (6, .pure), (7, .free), (8, .pure)] mixed (by kernel_rfl) (by kernel_rfl) ?_
          clear H
          intro w2 H
          clear w1
          refine tkSlF hx 1 (xs).length rfl rfl (by omega) (by omega) (.inr ⟨_, by first | rfl | (congr 2; omega)⟩) (.inl ⟨rfl, rfl⟩) ?_
          intro v1 hs1
          refine tkSlF hx 0 1 rfl rfl (by omega) (by omega) (.inl ⟨rfl, rfl⟩) (.inr ⟨_, by first | rfl | (congr 2; omega)⟩) ?_
          intro v2 hs2
          refine CallP.mk (Fc.imp (Go.Proofs.YtcpniokopahakaaDoor.Fold.spanX H _ _ hs1 ?_) ?_)
          · (simp; omega)
          clear H
          rintro _ w1 ⟨n1, ⟨rfl, ⟨h1, ⟨h3, H⟩⟩⟩⟩
          refine eqI64 (by omega) ?_
        rotate_left 1
        focus
          replace c3 := vEq_f (c3)
          refine cI (fun c4 => ?_) (fun c4 => ?_)
          rotate_left
          · replace c4 := vEq_f (c4)
            refine rBuild rfl rfl rfl ?_
            refine rStAS H 0 rfl rfl rfl rfl ?_
            clear H
            intro w2 H
            clear w1
            refine rdAN (H.at 0 rfl) 0 rfl rfl rfl ?_
            refine Done.mk ?_
            exact ⟨g, 0, _, [], _, rfl, Ext.refl _, FSl.nil0 _ _ _ _, RuleR.no (by intro hA; simp only [App, e0, e1, IsC, List.length_map] at hA; (try simp only [InsV.d] at hA); omega), H.tl⟩
          replace c4 := vEq_t (c4)
          obtain ⟨b2, o2, E2, F2, hok2⟩ := FSl.elt hx hx1
          have hok2_op := hok2.op
          have hok2_a := hok2.a
          have hok2_b := hok2.b
          have hok2_to := hok2.to
          refine rIxE E2 rfl rfl rfl ?_
          refine rFieldAt rfl ?_
          refine rLd (H.fat F2) 0 rfl rfl rfl ?_
          refine br (fun c5 => ?_) (fun c5 => ?_)
          · replace c5 := vEq_t (c5)
            refine cT rfl ?_
            refine rBuild rfl rfl rfl ?_
            refine rStAS H 0 rfl rfl rfl rfl ?_
            clear H
            intro w2 H
            clear w1
            refine rdAN (H.at 0 rfl) 0 rfl rfl rfl ?_
            refine Done.mk ?_
            exact ⟨g, 0, _, [], _, rfl, Ext.refl _, FSl.nil0 _ _ _ _, RuleR.no (by intro hA; simp only [App, e0, e1, IsC, List.length_map] at hA; (try simp only [InsV.d] at hA); omega), H.tl⟩
          replace c5 := vEq_f (c5)
          refine rIxE E2 rfl rfl rfl ?_
          refine rFieldAt rfl ?_
          refine rLd (H.fat F2) 0 rfl rfl rfl ?_
          refine cI (fun c6 => ?_) (fun c6 => ?_)
          · replace c6 := vEq_t (c6)
            refine rBuild rfl rfl rfl ?_
            refine rStAS H 0 rfl rfl rfl rfl ?_
            clear H
            intro w2 H
            clear w1
            refine rdAN (H.at 0 rfl) 0 rfl rfl rfl ?_
            refine Done.mk ?_
            exact ⟨g, 0, _, [], _, rfl, Ext.refl _, FSl.nil0 _ _ _ _, RuleR.no (by intro hA; simp only [App, e0, e1, IsC, List.length_map] at hA; (try simp only [InsV.d] at hA); omega), H.tl⟩
          replace c6 := vEq_f (c6)
          refine drawzS H [] [(0, .pure), (1, .pure), (4, .pure), (5, .pure), (2, .free), (3, .pure), (6, .pure), (7, .free), (8, .pure)] mixed (by kernel_rfl) (by kernel_rfl) ?_
          clear H
          intro w2 H
          clear w1
          refine tkSlF hx 1 (xs).length rfl rfl (by omega) (by omega) (.inr ⟨_, by first | rfl | (congr 2; omega)⟩) (.inl ⟨rfl, rfl⟩) ?_
          intro v1 hs1
          refine tkSlF hx 0 1 rfl rfl (by omega) (by omega) (.inl ⟨rfl, rfl⟩) (.inr ⟨_, by first | rfl | (congr 2; omega)⟩) ?_
          intro v2 hs2
          refine CallP.mk (Fc.imp (Go.Proofs.YtcpniokopahakaaDoor.Fold.spanX H _ _ hs1 ?_) ?_)
          · (simp; omega)
          clear H
          rintro _ w1 ⟨n1, ⟨rfl, ⟨h1, ⟨h3, H⟩⟩⟩⟩
          refine eqI64 (by omega) ?_
        rotate_left 1
      rotate_left 2
    rotate_left 3
    · obtain ⟨a9, c9, rfl⟩ := FSl.form hs2
      refine tk (fun wx HS => rBuild rfl rfl rfl ⟨rfl, rfl⟩) ?_
      refine rStAS H 0 rfl rfl rfl rfl ?_
      clear H
      intro w3 H
      clear w1
      refine rdAN (H.at 0 rfl) 0 rfl rfl rfl ?_
      refine Done.mk ?_
      exact ⟨g, 1 + n1, _, List.drop 0 (List.take 1 xs), true, rfl, Ext.refl _, by assumption, R5 hx0 hx1 (by simp only [App, e0, e1, IsC, List.length_map]; (try simp only [InsV.d]); omega) (by assumption), H.tl⟩
    · obtain ⟨a9, c9, rfl⟩ := FSl.form hs2
      refine tk (fun wx HS => rBuild rfl rfl rfl ⟨rfl, rfl⟩) ?_
      refine rStAS H 0 rfl rfl rfl rfl ?_
      clear H
      intro w3 H
      clear w1
      refine rdAN (H.at 0 rfl) 0 rfl rfl rfl ?_
      refine Done.mk ?_
      exact ⟨g, 1 + n1, _, List.drop 0 (List.take 1 xs), true, rfl, Ext.refl _, by assumption, R5 hx0 hx1 (by simp only [App, e0, e1, IsC, List.length_map]; (try simp only [InsV.d]); omega) (by assumption), H.tl⟩
    · obtain ⟨a9, c9, rfl⟩ := FSl.form hs2
      refine tk (fun wx HS => rBuild rfl rfl rfl ⟨rfl, rfl⟩) ?_
      refine rStAS H 0 rfl rfl rfl rfl ?_
      clear H
      intro w3 H
      clear w1
      refine rdAN (H.at 0 rfl) 0 rfl rfl rfl ?_
      refine Done.mk ?_
      exact ⟨g, 1 + n1, _, List.drop 0 (List.take 1 xs), true, rfl, Ext.refl _, by assumption, R5 hx0 hx1 (by simp only [App, e0, e1, IsC, List.length_map]; (try simp only [InsV.d]); omega) (by assumption), H.tl⟩
    · obtain ⟨a9, c9, rfl⟩ := FSl.form hs2
      refine tk (fun wx HS => rBuild rfl rfl rfl ⟨rfl, rfl⟩) ?_
      refine rStAS H 0 rfl rfl rfl rfl ?_
      clear H
      intro w3 H
      clear w1
      refine rdAN (H.at 0 rfl) 0 rfl rfl rfl ?_
      refine Done.mk ?_
      exact ⟨g, 1 + n1, _, List.drop 0 (List.take 1 xs), true, rfl, Ext.refl _, by assumption, R5 hx0 hx1 (by simp only [App, e0, e1, IsC, List.length_map]; (try simp only [InsV.d]); omega) (by assumption), H.tl⟩
  · have h11 : x.op = 11 := Decidable.by_contra fun h => h2 (len2 hx0 hr h)
    refine rAllocS H rfl ?_
    clear H
    intro p1 w1 H
    obtain ⟨b1, o1, E1, F1, hok1⟩ := FSl.elt hx hx0
    have hok1_op := hok1.op
    have hok1_a := hok1.a
    have hok1_b := hok1.b
    have hok1_to := hok1.to
    refine rIxE E1 rfl rfl rfl ?_
    refine rFieldAt rfl ?_
    refine rLd (H.fat F1) 0 rfl rfl rfl ?_
    refine bk ?_
    refine cF (vEq_F (by omega)) ?_
    refine cF (vEq_F (by omega)) ?_
    refine cF (vEq_F (by omega)) ?_
    refine cF (vEq_F (by omega)) ?_
    refine rBuild rfl rfl rfl ?_
    refine rStAS H 0 rfl rfl rfl rfl ?_
    clear H
    intro w2 H
    clear w1
    refine rdAN (H.at 0 rfl) 0 rfl rfl rfl ?_
    refine Done.mk ?_
    exact ⟨g, 0, _, [], _, rfl, Ext.refl _, FSl.nil0 _ _ _ _, RuleR.no (by intro hA; simp only [App, e0, IsC, List.length_map] at hA; (try simp only [InsV.d] at hA); omega), H.tl⟩
end
end Go.Proofs.YtcpniokopahakaaDoor.Fold
/-
  Contracts of the library, laid at this program by the kit's tools.
-/
namespace Go.Proofs
open Go.Shelf
def Tryd.lays133_ren : Go.Shelf.Ren := ⟨fun | 133 => 190 | 128 => 217 | n => n, fun | 51 => 218 | 3 => 3 | 4 => 4 | 46 => 228 | 5 => 5 | 9 => 9 | n => n, fun | n => n⟩
theorem Tryd.lays133 : Go.Proofs.Lays.n133 Tryd.prog Tryd.lays133_ren := {
  mixed := by kernel_rfl
  f128 := Tryd.func217.trans (congrArg some (by kernel_rfl))
  f133 := Tryd.func190.trans (congrArg some (by kernel_rfl))
  t3 := Tryd.underlying3
  a3 := Tryd.isAgg3
  z3 := Tryd.sizeOf3
  v3 := Tryd.zeroValue3
  t4 := Tryd.underlying4
  a4 := Tryd.isAgg4
  z4 := Tryd.sizeOf4
  v4 := Tryd.zeroValue4
  t5 := Tryd.underlying5
  a5 := Tryd.isAgg5
  z5 := Tryd.sizeOf5
  v5 := Tryd.zeroValue5
  t9 := Tryd.underlying9
  a9 := Tryd.isAgg9
  z9 := Tryd.sizeOf9
  v9 := Tryd.zeroValue9
  t46 := Tryd.underlying228
  a46 := Tryd.isAgg228
  z46 := Tryd.sizeOf228
  v46 := Tryd.zeroValue228
  t51 := Tryd.underlying218
  a51 := Tryd.isAgg218
  z51 := Tryd.sizeOf218
  v51 := Tryd.zeroValue218 }
/-- bits.LeadingZeros32: "LeadingZeros32 returns the number of leading zero bits in x; the result is 32 for x == 0.": IT RETURNS '32 - Lib.bitLen x'; the world is as it was. ITS CALLEE bits.Len32 IS MET BY ITS OWN CONTRACT OFF THE SHELF (lay that first): entered in place it sends the kernel out of memory. (LAID: no walk: one application.) -/
theorem Tryd.bits_LeadingZeros32 (x : Int) (w : World) (h0 : 0 ≤ x) (h1 : x ≤ 4294967295) :
    Calls Tryd.prog 190 #[.int .u32 x] w fun e w' => e = .returned (.int .i64 (32 - (Lib.bitLen x.toNat : Int))) ∧ w' = w := Any.bits_LeadingZeros32 Tryd.lays133 x w h0 h1
def Tryd.lays134_ren : Go.Shelf.Ren := ⟨fun | 134 => 193 | 129 => 218 | n => n, fun | 53 => 103 | 3 => 3 | 4 => 4 | 46 => 228 | 5 => 5 | 9 => 9 | n => n, fun | n => n⟩
theorem Tryd.lays134 : Go.Proofs.Lays.n134 Tryd.prog Tryd.lays134_ren := {
  mixed := by kernel_rfl
  f129 := Tryd.func218.trans (congrArg some (by kernel_rfl))
  f134 := Tryd.func193.trans (congrArg some (by kernel_rfl))
  t3 := Tryd.underlying3
  a3 := Tryd.isAgg3
  z3 := Tryd.sizeOf3
  v3 := Tryd.zeroValue3
  t4 := Tryd.underlying4
  a4 := Tryd.isAgg4
  z4 := Tryd.sizeOf4
  v4 := Tryd.zeroValue4
  t5 := Tryd.underlying5
  a5 := Tryd.isAgg5
  z5 := Tryd.sizeOf5
  v5 := Tryd.zeroValue5
  t9 := Tryd.underlying9
  a9 := Tryd.isAgg9
  z9 := Tryd.sizeOf9
  v9 := Tryd.zeroValue9
  t46 := Tryd.underlying228
  a46 := Tryd.isAgg228
  z46 := Tryd.sizeOf228
  v46 := Tryd.zeroValue228
  t53 := Tryd.underlying103
  a53 := Tryd.isAgg103
  z53 := Tryd.sizeOf103
  v53 := Tryd.zeroValue103 }
/-- bits.LeadingZeros64: "LeadingZeros64 returns the number of leading zero bits in x; the result is 64 for x == 0.": IT RETURNS '64 - Lib.bitLen x'; the world is as it was. ITS CALLEE bits.Len64 IS MET BY ITS OWN CONTRACT OFF THE SHELF (lay that first): entered in place it sends the kernel out of memory. (LAID: no walk: one application.) -/
theorem Tryd.bits_LeadingZeros64 (x : Int) (w : World) (h0 : 0 ≤ x) (h1 : x ≤ 18446744073709551615) :
    Calls Tryd.prog 193 #[.int .u64 x] w fun e w' => e = .returned (.int .i64 (64 - (Lib.bitLen x.toNat : Int))) ∧ w' = w := Any.bits_LeadingZeros64 Tryd.lays134 x w h0 h1
end Go.Proofs
/- Package math/bits: how far its counts go. -/
set_option maxRecDepth 100000
set_option maxHeartbeats 4000000
set_option linter.unusedVariables false
set_option linter.unusedSimpArgs false
namespace Go.Proofs.YtcpniokopahakaaDoor.Fold
open Go Go.Proofs.YtcpniokopahakaaDoor.Eng Go.RowKit
open Go.Proofs.YtcpniokopahakaaDoor.Bm
section
variable {g : Glob} {w : World} {l : List As}
theorem lz32 (H : Sat g w l) (n : Int) (hn : 0 ≤ n ∧ n ≤ 4294967295) : Fc Tryd.prog 190 #[.int .u32 n] w (fun v w' => ∃ r, v = .int .i64 r ∧ (-1000 ≤ r ∧ r ≤ 1000) ∧ Sat g w' l) := by
  refine Fc.ofCalls Tryd.func190 rfl (by kernel_rfl) ?_
  refine (Tryd.bits_LeadingZeros32 n w hn.1 hn.2).mono ?_
  rintro e w' ⟨rfl, rfl⟩
  have := Go.Proofs.Any.bitLen_le32 n hn.1 hn.2
  exact ⟨_, rfl, _, rfl, by omega, H⟩
theorem lz64 (H : Sat g w l) (n : Int) (hn : 0 ≤ n ∧ n ≤ 18446744073709551615) : Fc Tryd.prog 193 #[.int .u64 n] w (fun v w' => ∃ r, v = .int .i64 r ∧ (-1000 ≤ r ∧ r ≤ 1000) ∧ Sat g w' l) := by
  refine Fc.ofCalls Tryd.func193 rfl (by kernel_rfl) ?_
  refine (Tryd.bits_LeadingZeros64 n w hn.1 hn.2).mono ?_
  rintro e w' ⟨rfl, rfl⟩
  have := Go.Proofs.Any.bitLen_le64 n hn.1 hn.2
  exact ⟨_, rfl, _, rfl, by omega, H⟩
theorem tab32_ex : ∀ k < 32, ∃ t, (tabV tab32)[k]? = some (.int .u8 t) ∧ 0 ≤ t ∧ t ≤ 255 := by
  intro k hk
  have h : ∀ k < 32, tab32.getD k 0 ≤ 255 := by decide
  refine ⟨(tab32.getD k 0 : Nat), ?_, by omega, by have := h k hk; omega⟩
  unfold tabV
  rw [List.getElem?_map, List.getD_eq_getElem?_getD, List.getElem?_eq_getElem (show k < tab32.length from hk)]; rfl
theorem tab64_ex : ∀ k < 64, ∃ t, (tabV tab64)[k]? = some (.int .u8 t) ∧ 0 ≤ t ∧ t ≤ 255 := by
  intro k hk
  have h : ∀ k < 64, tab64.getD k 0 ≤ 255 := by decide
  refine ⟨(tab64.getD k 0 : Nat), ?_, by omega, by have := h k hk; omega⟩
  unfold tabV
  rw [List.getElem?_map, List.getD_eq_getElem?_getD, List.getElem?_eq_getElem (show k < tab64.length from hk)]; rfl
theorem fat_at {g : Glob} {b k : Nat} {vs : List Value} {v : Value} (h : FAt g b 0 vs) (hk : vs[k]? = some v) : FAt g b (0 + k * 1) [v] := by
  obtain ⟨cs, e, fz, h1, h2⟩ := h
  refine ⟨cs, e, fz, h1, fun i u hu => ?_⟩
  cases i with
  | zero =>
    obtain rfl : v = u := by simpa using hu
    have := h2 k v hk
    simpa using this
  | succ i => simp at hu
theorem tz32 (H : Sat g w l) (hT : FAt g 3 0 (tabV tab32)) (n : Int) (hn : 0 ≤ n ∧ n ≤ 4294967295) : Fc Tryd.prog 191 #[.int .u32 n] w (fun v w' => ∃ r, v = .int .i64 r ∧ (-1000 ≤ r ∧ r ≤ 1000) ∧ Sat g w' l) := by
  refine Fc.of Tryd.func191 rfl (by kernel_rfl) ?_
  refine cI (fun c1 => ?_) (fun c1 => ?_)
  · replace c1 := vEq_t (c1)
    refine Done.mk ?_
    refine ⟨32, ?_⟩
    refine ⟨?_, ?_⟩
    · refine int_eq ?_
      omega
    refine ⟨?_, ?_⟩
    · refine ⟨?_, ?_⟩
      · omega
      omega
    exact H
  replace c1 := vEq_f (c1)
  refine eqNegU32 (by omega) ?_
  (refine eqAndU32 ((n).toNat) (((4294967296 - n) % 4294967296).toNat) (by omega) (by omega) (by omega) (by omega) ?_; intro hA1 hA2)
  refine eqWrapMU32 ?_
  refine ShiftP.mk (by decide) ?_
  refine eqShrL 27 134217728 rfl rfl (by decide) ?_
  generalize hK : ((n.toNat &&& ((4294967296 - n) % 4294967296).toNat : Nat) : Int) * 125613361 % 4294967296 / 134217728 = K
  have hK1 : 0 ≤ K ∧ K < 32 := by omega
  clear hK hA1 hA2
  obtain ⟨k, rfl⟩ := Int.eq_ofNat_of_zero_le hK1.1
  obtain ⟨t, ht, ht1⟩ := tab32_ex k (by omega)
  have hF := fat_at hT ht
  refine rIxArr 1 (k) (by omega) (by omega) rfl rfl ?_
  refine rLd (H.fat hF) 0 rfl rfl rfl ?_
  refine rConvI64 (by omega) rfl rfl ?_
  refine Done.mk ?_
  refine ⟨t, ?_⟩
  refine ⟨?_, ?_⟩
  · refine int_eq ?_
    omega
  refine ⟨?_, ?_⟩
  · refine ⟨?_, ?_⟩
    · omega
    omega
  exact H
theorem tz64 (H : Sat g w l) (hT : FAt g 4 0 (tabV tab64)) (n : Int) (hn : 0 ≤ n ∧ n ≤ 18446744073709551615) : Fc Tryd.prog 194 #[.int .u64 n] w (fun v w' => ∃ r, v = .int .i64 r ∧ (-1000 ≤ r ∧ r ≤ 1000) ∧ Sat g w' l) := by
  refine Fc.of Tryd.func194 rfl (by kernel_rfl) ?_
  refine cI (fun c1 => ?_) (fun c1 => ?_)
  · replace c1 := vEq_t (c1)
    refine Done.mk ?_
    refine ⟨64, ?_⟩
    refine ⟨?_, ?_⟩
    · refine int_eq ?_
      omega
    refine ⟨?_, ?_⟩
    · refine ⟨?_, ?_⟩
      · omega
      omega
    exact H
  replace c1 := vEq_f (c1)
  refine eqNegU64 (by omega) ?_
  (refine eqAndU64 ((n).toNat) (((18446744073709551616 - n) % 18446744073709551616).toNat) (by omega) (by omega) (by omega) (by omega) ?_; intro hA1 hA2)
  refine eqWrapMU64 ?_
  refine ShiftP.mk (by decide) ?_
  refine eqShrL 58 288230376151711744 rfl rfl (by decide) ?_
  generalize hK : ((n.toNat &&& ((18446744073709551616 - n) % 18446744073709551616).toNat : Nat) : Int) * 285870213051353865 % 18446744073709551616 / 288230376151711744 = K
  have hK1 : 0 ≤ K ∧ K < 64 := by omega
  clear hK hA1 hA2
  obtain ⟨k, rfl⟩ := Int.eq_ofNat_of_zero_le hK1.1
  obtain ⟨t, ht, ht1⟩ := tab64_ex k (by omega)
  have hF := fat_at hT ht
  refine rIxArr 1 (k) (by omega) (by omega) rfl rfl ?_
  refine rLd (H.fat hF) 0 rfl rfl rfl ?_
  refine rConvI64 (by omega) rfl rfl ?_
  refine Done.mk ?_
  refine ⟨t, ?_⟩
  refine ⟨?_, ?_⟩
  · refine int_eq ?_
    omega
  refine ⟨?_, ?_⟩
  · refine ⟨?_, ?_⟩
    · omega
    omega
  exact H
end
end Go.Proofs.YtcpniokopahakaaDoor.Fold
/- Package math/bits: OnesCount. -/
set_option maxRecDepth 100000
set_option maxHeartbeats 4000000
set_option linter.unusedVariables false
set_option linter.unusedSimpArgs false
namespace Go.Proofs.YtcpniokopahakaaDoor.Fold
open Go Go.Proofs.YtcpniokopahakaaDoor.Eng Go.RowKit
open Go.Proofs.YtcpniokopahakaaDoor.Bm
section
variable {g : Glob} {w : World} {l : List As}
theorem oc32 (H : Sat g w l) (n : Int) (hn : 0 ≤ n ∧ n ≤ 4294967295) : Fc Tryd.prog 192 #[.int .u32 n] w (fun v w' => ∃ r, v = .int .i64 r ∧ (-1000 ≤ r ∧ r ≤ 1000) ∧ Sat g w' l) := by
  refine Fc.of Tryd.func192 rfl (by kernel_rfl) ?_
  refine drawzS H [] [(0, .pure), (1, .pure), (2, .pure), (3, .pure), (4, .pure), (5, .pure), (6, .pure), (7, .pure), (8, .pure), (9, .pure), (10, .pure), (11, .pure), (12, .pure), (13, .pure), (14, .pure), (15, .pure), (16, .pure), (17, .pure), (18, .pure)] mixed (by kernel_rfl) (by kernel_rfl) ?_
  clear H
  intro w1 H
  refine ShiftP.mk (by decide) ?_
  refine eqShrL 24 16777216 rfl rfl (by decide) ?_
  refine tk (fun wx HS => rIdxStr rfl (n / 16777216).toNat (by (simp; omega)) (by (simp; omega)) ⟨rfl, rfl⟩) ?_
  refine ShiftP.mk (by decide) ?_
  refine eqShrL 16 65536 rfl rfl (by decide) ?_
  refine eqAndMask 8 256 rfl rfl (by decide) ?_
  refine tk (fun wx HS => rIdxStr rfl (n / 65536 % 256).toNat (by (simp; omega)) (by (simp; omega)) ⟨rfl, rfl⟩) ?_
  refine eqWrapMU8 ?_
  refine ShiftP.mk (by decide) ?_
  refine eqShrL 8 256 rfl rfl (by decide) ?_
  refine eqAndMask 8 256 rfl rfl (by decide) ?_
  refine tk (fun wx HS => rIdxStr rfl (n / 256 % 256).toNat (by (simp; omega)) (by (simp; omega)) ⟨rfl, rfl⟩) ?_
  refine eqWrapMU8 ?_
  refine eqAndMask 8 256 rfl rfl (by decide) ?_
  refine tk (fun wx HS => rIdxStr rfl (n % 256).toNat (by (simp; omega)) (by (simp; omega)) ⟨rfl, rfl⟩) ?_
  refine eqWrapMU8 ?_
  refine tk (fun wx HS => rConvI64 (by omega) rfl rfl ⟨rfl, rfl⟩) ?_
  refine Done.mk ?_
  exact ⟨_, rfl, by omega, H⟩
theorem oc64 (H : Sat g w l) (n : Int) (hn : 0 ≤ n ∧ n ≤ 18446744073709551615) : Fc Tryd.prog 195 #[.int .u64 n] w (fun v w' => ∃ r, v = .int .i64 r ∧ (-1000 ≤ r ∧ r ≤ 1000) ∧ Sat g w' l) := by
  refine Fc.of Tryd.func195 rfl (by kernel_rfl) ?_
  refine ShiftP.mk (by decide) ?_
  refine eqShrL 1 2 rfl rfl (by decide) ?_
  (refine eqAndU64 ((n / 2).toNat) (6148914691236517205) (by omega) (by omega) (by omega) (by omega) ?_; intro hA1 hA2)
  (refine eqAndU64 ((n).toNat) (6148914691236517205) (by omega) (by omega) (by omega) (by omega) ?_; intro hA1 hA2)
  refine eqU64 (by omega) ?_
  refine ShiftP.mk (by decide) ?_
  refine eqShrL 2 4 rfl rfl (by decide) ?_
  (refine eqAndU64 (((((n / 2).toNat &&& 6148914691236517205) + (n.toNat &&& 6148914691236517205)) / 4)) (3689348814741910323) (by omega) (by omega) (by omega) (by omega) ?_; intro hA1 hA2)
  (refine eqAndU64 ((((n / 2).toNat &&& 6148914691236517205) + (n.toNat &&& 6148914691236517205))) (3689348814741910323) (by omega) (by omega) (by omega) (by omega) ?_; intro hA1 hA2)
  refine eqU64 (by omega) ?_
  refine ShiftP.mk (by decide) ?_
  refine eqShrL 4 16 rfl rfl (by decide) ?_
  refine eqU64 (by omega) ?_
  (refine eqAndU64 ((((((((n / 2).toNat &&& 6148914691236517205) + (n.toNat &&& 6148914691236517205)) / 4 &&& 3689348814741910323) + (((n / 2).toNat &&& 6148914691236517205) + (n.toNat &&& 6148914691236517205) &&& 3689348814741910323)) / 16) + (((((n / 2).toNat &&& 6148914691236517205) + (n.toNat &&& 6148914691236517205)) / 4 &&& 3689348814741910323) + (((n / 2).toNat &&& 6148914691236517205) + (n.toNat &&& 6148914691236517205) &&& 3689348814741910323)))) (1085102592571150095) (by omega) (by omega) (by omega) (by omega) ?_; intro hA1 hA2)
  refine ShiftP.mk (by decide) ?_
  refine eqShrL 8 256 rfl rfl (by decide) ?_
  refine eqU64 (by omega) ?_
  refine ShiftP.mk (by decide) ?_
  refine eqShrL 16 65536 rfl rfl (by decide) ?_
  refine eqU64 (by omega) ?_
  refine ShiftP.mk (by decide) ?_
  refine eqShrL 32 4294967296 rfl rfl (by decide) ?_
  refine eqU64 (by omega) ?_
  refine rConvI64 (by omega) rfl rfl ?_
  refine eqAndMask 7 128 rfl rfl (by decide) ?_
  refine Done.mk ?_
  refine ⟨((↑((((((n / 2).toNat &&& 6148914691236517205) + (n.toNat &&& 6148914691236517205)) / 4 &&& 3689348814741910323) + (((n / 2).toNat &&& 6148914691236517205) + (n.toNat &&& 6148914691236517205) &&& 3689348814741910323)) / 16 + (((((n / 2).toNat &&& 6148914691236517205) + (n.toNat &&& 6148914691236517205)) / 4 &&& 3689348814741910323) + (((n / 2).toNat &&& 6148914691236517205) + (n.toNat &&& 6148914691236517205) &&& 3689348814741910323)) &&& 1085102592571150095) : Int) + (↑((((((n / 2).toNat &&& 6148914691236517205) + (n.toNat &&& 6148914691236517205)) / 4 &&& 3689348814741910323) + (((n / 2).toNat &&& 6148914691236517205) + (n.toNat &&& 6148914691236517205) &&& 3689348814741910323)) / 16 + (((((n / 2).toNat &&& 6148914691236517205) + (n.toNat &&& 6148914691236517205)) / 4 &&& 3689348814741910323) + (((n / 2).toNat &&& 6148914691236517205) + (n.toNat &&& 6148914691236517205) &&& 3689348814741910323)) &&& 1085102592571150095) : Int) / 256 + ((↑((((((n / 2).toNat &&& 6148914691236517205) + (n.toNat &&& 6148914691236517205)) / 4 &&& 3689348814741910323) + (((n / 2).toNat &&& 6148914691236517205) + (n.toNat &&& 6148914691236517205) &&& 3689348814741910323)) / 16 + (((((n / 2).toNat &&& 6148914691236517205) + (n.toNat &&& 6148914691236517205)) / 4 &&& 3689348814741910323) + (((n / 2).toNat &&& 6148914691236517205) + (n.toNat &&& 6148914691236517205) &&& 3689348814741910323)) &&& 1085102592571150095) : Int) + (↑((((((n / 2).toNat &&& 6148914691236517205) + (n.toNat &&& 6148914691236517205)) / 4 &&& 3689348814741910323) + (((n / 2).toNat &&& 6148914691236517205) + (n.toNat &&& 6148914691236517205) &&& 3689348814741910323)) / 16 + (((((n / 2).toNat &&& 6148914691236517205) + (n.toNat &&& 6148914691236517205)) / 4 &&& 3689348814741910323) + (((n / 2).toNat &&& 6148914691236517205) + (n.toNat &&& 6148914691236517205) &&& 3689348814741910323)) &&& 1085102592571150095) : Int) / 256) / 65536 + ((↑((((((n / 2).toNat &&& 6148914691236517205) + (n.toNat &&& 6148914691236517205)) / 4 &&& 3689348814741910323) + (((n / 2).toNat &&& 6148914691236517205) + (n.toNat &&& 6148914691236517205) &&& 3689348814741910323)) / 16 + (((((n / 2).toNat &&& 6148914691236517205) + (n.toNat &&& 6148914691236517205)) / 4 &&& 3689348814741910323) + (((n / 2).toNat &&& 6148914691236517205) + (n.toNat &&& 6148914691236517205) &&& 3689348814741910323)) &&& 1085102592571150095) : Int) + (↑((((((n / 2).toNat &&& 6148914691236517205) + (n.toNat &&& 6148914691236517205)) / 4 &&& 3689348814741910323) + (((n / 2).toNat &&& 6148914691236517205) + (n.toNat &&& 6148914691236517205) &&& 3689348814741910323)) / 16 + (((((n / 2).toNat &&& 6148914691236517205) + (n.toNat &&& 6148914691236517205)) / 4 &&& 3689348814741910323) + (((n / 2).toNat &&& 6148914691236517205) + (n.toNat &&& 6148914691236517205) &&& 3689348814741910323)) &&& 1085102592571150095) : Int) / 256 + ((↑((((((n / 2).toNat &&& 6148914691236517205) + (n.toNat &&& 6148914691236517205)) / 4 &&& 3689348814741910323) + (((n / 2).toNat &&& 6148914691236517205) + (n.toNat &&& 6148914691236517205) &&& 3689348814741910323)) / 16 + (((((n / 2).toNat &&& 6148914691236517205) + (n.toNat &&& 6148914691236517205)) / 4 &&& 3689348814741910323) + (((n / 2).toNat &&& 6148914691236517205) + (n.toNat &&& 6148914691236517205) &&& 3689348814741910323)) &&& 1085102592571150095) : Int) + (↑((((((n / 2).toNat &&& 6148914691236517205) + (n.toNat &&& 6148914691236517205)) / 4 &&& 3689348814741910323) + (((n / 2).toNat &&& 6148914691236517205) + (n.toNat &&& 6148914691236517205) &&& 3689348814741910323)) / 16 + (((((n / 2).toNat &&& 6148914691236517205) + (n.toNat &&& 6148914691236517205)) / 4 &&& 3689348814741910323) + (((n / 2).toNat &&& 6148914691236517205) + (n.toNat &&& 6148914691236517205) &&& 3689348814741910323)) &&& 1085102592571150095) : Int) / 256) / 65536) / 4294967296) % 128, ?_⟩
  refine ⟨?_, ?_⟩
  · refine int_eq ?_
    omega
  refine ⟨?_, ?_⟩
  · refine ⟨?_, ?_⟩
    · omega
    omega
  exact H
end
end Go.Proofs.YtcpniokopahakaaDoor.Fold
/- Package num: One: its fault, and how far its number goes. -/
set_option maxRecDepth 100000
set_option maxHeartbeats 4000000
set_option linter.unusedVariables false
set_option linter.unusedSimpArgs false
namespace Go.Proofs.YtcpniokopahakaaDoor.Fold
open Go Go.Proofs.YtcpniokopahakaaDoor.Eng Go.RowKit
open Num
open Go.Proofs.YtcpniokopahakaaDoor.Bm (tabV tab32 tab64)
structure BmF (g : Glob) : Prop where
  t32 : FAt g 3 0 (tabV tab32)
  t64 : FAt g 4 0 (tabV tab64)
theorem BmF.ext {g g' : Glob} (h : BmF g) (E : Ext g g') : BmF g' := ⟨FAt.ext h.t32 E, FAt.ext h.t64 E⟩
instance (o : Int) : Decidable (oneOk o) := by unfold oneOk; infer_instance
structure OneR (op r e : Int) : Prop where
  e : e = if oneOk op then 0 else 6
  rng : I64 r
  r32 : op = 69 ∨ op = 80 ∨ (103 ≤ op ∧ op ≤ 105) ∨ op = 167 ∨ op = 192 ∨ op = 193 → -2147483648 ≤ r ∧ r ≤ 2147483647
theorem one1 {op r : Int} (h : oneOk op) (hr : -2147483648 ≤ r ∧ r ≤ 2147483647) : OneR op r 0 := ⟨(if_pos h).symm, ⟨by omega, by omega⟩, fun _ => hr⟩
theorem one2 {op r : Int} (h : oneOk op) (hr : I64 r) (h2 : ¬ (op = 69 ∨ op = 80 ∨ (103 ≤ op ∧ op ≤ 105) ∨ op = 167 ∨ op = 192 ∨ op = 193)) : OneR op r 0 := ⟨(if_pos h).symm, hr, fun h => absurd h h2⟩
theorem one3 {op : Int} (h : ¬ oneOk op) : OneR op 0 6 := ⟨(if_neg h).symm, ⟨by omega, by omega⟩, fun _ => ⟨by omega, by omega⟩⟩
theorem wrap8 (a : Int) : -128 ≤ vWrap .i8 a ∧ vWrap .i8 a ≤ 127 := vWrap_range .i8 a
theorem wrap16 (a : Int) : -32768 ≤ vWrap .i16 a ∧ vWrap .i16 a ≤ 32767 := vWrap_range .i16 a
theorem in8 (a : Int) : -2147483648 ≤ vWrap .i64 (vWrap .i8 a) ∧ vWrap .i64 (vWrap .i8 a) ≤ 2147483647 := by
  have := wrap8 a; rw [wi64 (by omega)]; omega
theorem in16 (a : Int) : -2147483648 ≤ vWrap .i64 (vWrap .i16 a) ∧ vWrap .i64 (vWrap .i16 a) ≤ 2147483647 := by
  have := wrap16 a; rw [wi64 (by omega)]; omega
theorem in32 (a : Int) : -2147483648 ≤ vWrap .i64 (vWrap .i32 a) ∧ vWrap .i64 (vWrap .i32 a) ≤ 2147483647 := by
  have := Num.wrap32 a; rw [wi64 (by omega)]; exact this
theorem modu32 (a : Int) : 0 ≤ a % 4294967296 ∧ a % 4294967296 ≤ 4294967295 := by omega
theorem modu64 (a : Int) : 0 ≤ a % 18446744073709551616 ∧ a % 18446744073709551616 ≤ 18446744073709551615 := by omega
section
variable {g : Glob} {w : World} {l : List As}
theorem OneX (H : Sat g w l) (hT : BmF g) (op a : Int) (hop : 0 ≤ op ∧ op ≤ 255) (ha : I64 a) : Fc Tryd.prog 163 #[.int .u8 op, .int .i64 a] w (fun v w' => ∃ r e, v = .tuple #[.int .i64 r, .int .i64 e] ∧ OneR op r e ∧ Sat g w' l) := by
  have hT32 := hT.t32
  have hT64 := hT.t64
  refine Fc.of Tryd.func163 rfl (by kernel_rfl) ?_
  refine bk ?_
  refine cI (fun c1 => ?_) (fun c1 => ?_)
  · replace c1 := vEq_t (c1)
    refine rConvInt rfl rfl ?_
    refine CallP.mk (Fc.imp (Go.Proofs.YtcpniokopahakaaDoor.Num.truthX H _) ?_)
    clear H
    rintro _ w1 ⟨r1, ⟨rfl, ⟨h1, H⟩⟩⟩
    refine Done.mk ?_
    refine ⟨r1, 0, ?_⟩
    refine ⟨?_, ?_⟩
    · rfl
    refine ⟨?_, ?_⟩
    · (subst_vars; exact one1 (by unfold oneOk; omega) (by have h := b2i_01; constructor <;> (first | exact Int.le_trans (by decide) (h _).1 | exact Int.le_trans (h _).2 (by decide))))
    exact H
  replace c1 := vEq_f (c1)
  refine cI (fun c2 => ?_) (fun c2 => ?_)
  · replace c2 := vEq_t (c2)
    refine CallP.mk (Fc.imp (Go.Proofs.YtcpniokopahakaaDoor.Num.truthX H _) ?_)
    clear H
    rintro _ w1 ⟨r1, ⟨rfl, ⟨h1, H⟩⟩⟩
    refine Done.mk ?_
    refine ⟨r1, 0, ?_⟩
    refine ⟨?_, ?_⟩
    · rfl
    refine ⟨?_, ?_⟩
    · (subst_vars; exact one1 (by unfold oneOk; omega) (by have h := b2i_01; constructor <;> (first | exact Int.le_trans (by decide) (h _).1 | exact Int.le_trans (h _).2 (by decide))))
    exact H
  replace c2 := vEq_f (c2)
  refine cI (fun c3 => ?_) (fun c3 => ?_)
  · replace c3 := vEq_t (c3)
    refine rConvU32M rfl rfl ?_
    refine CallP.mk (Fc.imp (Go.Proofs.YtcpniokopahakaaDoor.Fold.lz32 H _ ?_) ?_)
    · exact modu32 _
    clear H
    rintro _ w1 ⟨r1, ⟨rfl, ⟨⟨h1, h2⟩, H⟩⟩⟩
    refine Done.mk ?_
    refine ⟨r1, 0, ?_⟩
    refine ⟨?_, ?_⟩
    · rfl
    refine ⟨?_, ?_⟩
    · exact one1 (by unfold oneOk; omega) (by have := b2i_01; omega)
    exact H
  replace c3 := vEq_f (c3)
  refine cI (fun c4 => ?_) (fun c4 => ?_)
  · replace c4 := vEq_t (c4)
    refine rConvU32M rfl rfl ?_
    refine CallP.mk (Fc.imp (Go.Proofs.YtcpniokopahakaaDoor.Fold.tz32 H ?_ _ ?_) ?_)
    · assumption
    · exact modu32 _
    clear H
    rintro _ w1 ⟨r1, ⟨rfl, ⟨⟨h1, h2⟩, H⟩⟩⟩
    refine Done.mk ?_
    refine ⟨r1, 0, ?_⟩
    refine ⟨?_, ?_⟩
    · rfl
    refine ⟨?_, ?_⟩
    · exact one1 (by unfold oneOk; omega) (by have := b2i_01; omega)
    exact H
  replace c4 := vEq_f (c4)
  refine cI (fun c5 => ?_) (fun c5 => ?_)
  · replace c5 := vEq_t (c5)
    refine rConvU32M rfl rfl ?_
    refine CallP.mk (Fc.imp (Go.Proofs.YtcpniokopahakaaDoor.Fold.oc32 H _ ?_) ?_)
    · exact modu32 _
    clear H
    rintro _ w1 ⟨r1, ⟨rfl, ⟨⟨h1, h2⟩, H⟩⟩⟩
    refine Done.mk ?_
    refine ⟨r1, 0, ?_⟩
    refine ⟨?_, ?_⟩
    · rfl
    refine ⟨?_, ?_⟩
    · exact one1 (by unfold oneOk; omega) (by have := b2i_01; omega)
    exact H
  replace c5 := vEq_f (c5)
  refine cI (fun c6 => ?_) (fun c6 => ?_)
  · replace c6 := vEq_t (c6)
    refine rConvU64M rfl rfl ?_
    refine CallP.mk (Fc.imp (Go.Proofs.YtcpniokopahakaaDoor.Fold.lz64 H _ ?_) ?_)
    · exact modu64 _
    clear H
    rintro _ w1 ⟨r1, ⟨rfl, ⟨⟨h1, h2⟩, H⟩⟩⟩
    refine Done.mk ?_
    refine ⟨r1, 0, ?_⟩
    refine ⟨?_, ?_⟩
    · rfl
    refine ⟨?_, ?_⟩
    · exact one1 (by unfold oneOk; omega) (by have := b2i_01; omega)
    exact H
  replace c6 := vEq_f (c6)
  refine cI (fun c7 => ?_) (fun c7 => ?_)
  · replace c7 := vEq_t (c7)
    refine rConvU64M rfl rfl ?_
    refine CallP.mk (Fc.imp (Go.Proofs.YtcpniokopahakaaDoor.Fold.tz64 H ?_ _ ?_) ?_)
    · assumption
    · exact modu64 _
    clear H
    rintro _ w1 ⟨r1, ⟨rfl, ⟨⟨h1, h2⟩, H⟩⟩⟩
    refine Done.mk ?_
    refine ⟨r1, 0, ?_⟩
    refine ⟨?_, ?_⟩
    · rfl
    refine ⟨?_, ?_⟩
    · exact one1 (by unfold oneOk; omega) (by have := b2i_01; omega)
    exact H
  replace c7 := vEq_f (c7)
  refine cI (fun c8 => ?_) (fun c8 => ?_)
  · replace c8 := vEq_t (c8)
    refine rConvU64M rfl rfl ?_
    refine CallP.mk (Fc.imp (Go.Proofs.YtcpniokopahakaaDoor.Fold.oc64 H _ ?_) ?_)
    · exact modu64 _
    clear H
    rintro _ w1 ⟨r1, ⟨rfl, ⟨⟨h1, h2⟩, H⟩⟩⟩
    refine Done.mk ?_
    refine ⟨r1, 0, ?_⟩
    refine ⟨?_, ?_⟩
    · rfl
    refine ⟨?_, ?_⟩
    · exact one1 (by unfold oneOk; omega) (by have := b2i_01; omega)
    exact H
  replace c8 := vEq_f (c8)
  refine cI (fun c9 => ?_) (fun c9 => ?_)
  · replace c9 := vEq_t (c9)
    refine cT (vEq_T (by assumption)) ?_
    refine rConvInt rfl rfl ?_
    refine rConvInt rfl rfl ?_
    refine Done.mk ?_
    refine ⟨vWrap IntKind.i64 (vWrap IntKind.i8 a), 0, ?_⟩
    refine ⟨?_, ?_⟩
    · rfl
    refine ⟨?_, ?_⟩
    · exact one1 (by unfold oneOk; omega) (in8 _)
    exact H
  replace c9 := vEq_f (c9)
  refine cI (fun c10 => ?_) (fun c10 => ?_)
  · replace c10 := vEq_t (c10)
    refine rConvInt rfl rfl ?_
    refine rConvInt rfl rfl ?_
    refine Done.mk ?_
    refine ⟨vWrap IntKind.i64 (vWrap IntKind.i8 a), 0, ?_⟩
    refine ⟨?_, ?_⟩
    · rfl
    refine ⟨?_, ?_⟩
    · exact one1 (by unfold oneOk; omega) (in8 _)
    exact H
  replace c10 := vEq_f (c10)
  refine cI (fun c11 => ?_) (fun c11 => ?_)
  · replace c11 := vEq_t (c11)
    refine cT (vEq_T (by assumption)) ?_
    refine rConvInt rfl rfl ?_
    refine rConvInt rfl rfl ?_
    refine Done.mk ?_
    refine ⟨vWrap IntKind.i64 (vWrap IntKind.i16 a), 0, ?_⟩
    refine ⟨?_, ?_⟩
    · rfl
    refine ⟨?_, ?_⟩
    · exact one1 (by unfold oneOk; omega) (in16 _)
    exact H
  replace c11 := vEq_f (c11)
  refine cI (fun c12 => ?_) (fun c12 => ?_)
  · replace c12 := vEq_t (c12)
    refine rConvInt rfl rfl ?_
    refine rConvInt rfl rfl ?_
    refine Done.mk ?_
    refine ⟨vWrap IntKind.i64 (vWrap IntKind.i16 a), 0, ?_⟩
    refine ⟨?_, ?_⟩
    · rfl
    refine ⟨?_, ?_⟩
    · exact one1 (by unfold oneOk; omega) (in16 _)
    exact H
  replace c12 := vEq_f (c12)
  refine cI (fun c13 => ?_) (fun c13 => ?_)
  · replace c13 := vEq_t (c13)
    refine cT (vEq_T (by assumption)) ?_
    refine rConvInt rfl rfl ?_
    refine rConvInt rfl rfl ?_
    refine Done.mk ?_
    refine ⟨vWrap IntKind.i64 (vWrap IntKind.i32 a), 0, ?_⟩
    refine ⟨?_, ?_⟩
    · rfl
    refine ⟨?_, ?_⟩
    · exact one1 (by unfold oneOk; omega) (in32 _)
    exact H
  replace c13 := vEq_f (c13)
  refine cI (fun c14 => ?_) (fun c14 => ?_)
  · replace c14 := vEq_t (c14)
    refine cT (vEq_T (by assumption)) ?_
    refine rConvInt rfl rfl ?_
    refine rConvInt rfl rfl ?_
    refine Done.mk ?_
    refine ⟨vWrap IntKind.i64 (vWrap IntKind.i32 a), 0, ?_⟩
    refine ⟨?_, ?_⟩
    · rfl
    refine ⟨?_, ?_⟩
    · exact one1 (by unfold oneOk; omega) (in32 _)
    exact H
  replace c14 := vEq_f (c14)
  refine cI (fun c15 => ?_) (fun c15 => ?_)
  · replace c15 := vEq_t (c15)
    refine rConvInt rfl rfl ?_
    refine rConvInt rfl rfl ?_
    refine Done.mk ?_
    refine ⟨vWrap IntKind.i64 (vWrap IntKind.i32 a), 0, ?_⟩
    refine ⟨?_, ?_⟩
    · rfl
    refine ⟨?_, ?_⟩
    · exact one1 (by unfold oneOk; omega) (in32 _)
    exact H
  replace c15 := vEq_f (c15)
  refine cI (fun c16 => ?_) (fun c16 => ?_)
  · replace c16 := vEq_t (c16)
    refine rConvU32M rfl rfl ?_
    refine rConvI64 (by omega) rfl rfl ?_
    refine Done.mk ?_
    refine ⟨a % 4294967296, 0, ?_⟩
    refine ⟨?_, ?_⟩
    · rfl
    refine ⟨?_, ?_⟩
    · exact one2 (by unfold oneOk; omega) ⟨by omega, by omega⟩ (by omega)
    exact H
  replace c16 := vEq_f (c16)
  refine Done.mk ?_
  refine ⟨0, 6, ?_⟩
  refine ⟨?_, ?_⟩
  · rfl
  refine ⟨?_, ?_⟩
  · exact one3 (by unfold oneOk; omega)
  exact H
end
end Go.Proofs.YtcpniokopahakaaDoor.Fold
/- Package ins: Plain. -/
set_option maxRecDepth 100000
set_option maxHeartbeats 4000000
set_option linter.unusedVariables false
set_option linter.unusedSimpArgs false
namespace Go.Proofs.YtcpniokopahakaaDoor.Valid
open Go Go.Proofs.YtcpniokopahakaaDoor.Eng Go.RowKit
open Ins Nest Leb Bin
theorem kindAtP (o : Int) (w : World) : Fc Tryd.prog 196 #[.int .u8 o] w (fun v w' => (∃ r, v = .int .u8 r ∧ r = kindAt o) ∧ w = w') := by
  refine Fc.of Tryd.func196 rfl (by kernel_rfl) ?_
  have H := Sat.start w
  refine bk ?_
  refine cI (fun c1 => ?_) (fun c1 => ?_)
  · replace c1 := vEq_t (c1)
    refine cT (vEq_T (by assumption)) ?_
    refine Done.mk ?_
    refine ⟨?_, ?_⟩
    · refine ⟨127, ?_⟩
      refine ⟨?_, ?_⟩
      · refine int_eq ?_
        omega
      exact (if_pos (by omega)).symm
    rfl
  replace c1 := vEq_f (c1)
  refine cI (fun c2 => ?_) (fun c2 => ?_)
  · replace c2 := vEq_t (c2)
    refine cT (vEq_T (by assumption)) ?_
    refine Done.mk ?_
    refine ⟨?_, ?_⟩
    · refine ⟨127, ?_⟩
      refine ⟨?_, ?_⟩
      · refine int_eq ?_
        omega
      exact (if_pos (by omega)).symm
    rfl
  replace c2 := vEq_f (c2)
  refine cI (fun c3 => ?_) (fun c3 => ?_)
  · replace c3 := vEq_t (c3)
    refine cT (vEq_T (by assumption)) ?_
    refine Done.mk ?_
    refine ⟨?_, ?_⟩
    · refine ⟨127, ?_⟩
      refine ⟨?_, ?_⟩
      · refine int_eq ?_
        omega
      exact (if_pos (by omega)).symm
    rfl
  replace c3 := vEq_f (c3)
  refine cI (fun c4 => ?_) (fun c4 => ?_)
  · replace c4 := vEq_t (c4)
    refine cT (vEq_T (by assumption)) ?_
    refine Done.mk ?_
    refine ⟨?_, ?_⟩
    · refine ⟨127, ?_⟩
      refine ⟨?_, ?_⟩
      · refine int_eq ?_
        omega
      exact (if_pos (by omega)).symm
    rfl
  replace c4 := vEq_f (c4)
  refine cI (fun c5 => ?_) (fun c5 => ?_)
  · replace c5 := vEq_t (c5)
    refine cT (vEq_T (by assumption)) ?_
    refine Done.mk ?_
    refine ⟨?_, ?_⟩
    · refine ⟨127, ?_⟩
      refine ⟨?_, ?_⟩
      · refine int_eq ?_
        omega
      exact (if_pos (by omega)).symm
    rfl
  replace c5 := vEq_f (c5)
  refine cI (fun c6 => ?_) (fun c6 => ?_)
  · replace c6 := vEq_t (c6)
    refine cT (vEq_T (by assumption)) ?_
    refine Done.mk ?_
    refine ⟨?_, ?_⟩
    · refine ⟨127, ?_⟩
      refine ⟨?_, ?_⟩
      · refine int_eq ?_
        omega
      exact (if_pos (by omega)).symm
    rfl
  replace c6 := vEq_f (c6)
  refine cI (fun c7 => ?_) (fun c7 => ?_)
  · replace c7 := vEq_t (c7)
    refine cT (vEq_T (by assumption)) ?_
    refine Done.mk ?_
    refine ⟨?_, ?_⟩
    · refine ⟨127, ?_⟩
      refine ⟨?_, ?_⟩
      · refine int_eq ?_
        omega
      exact (if_pos (by omega)).symm
    rfl
  replace c7 := vEq_f (c7)
  refine cI (fun c8 => ?_) (fun c8 => ?_)
  · replace c8 := vEq_t (c8)
    refine Done.mk ?_
    refine ⟨?_, ?_⟩
    · refine ⟨127, ?_⟩
      refine ⟨?_, ?_⟩
      · refine int_eq ?_
        omega
      exact (if_pos (by omega)).symm
    rfl
  replace c8 := vEq_f (c8)
  refine Done.mk ?_
  refine ⟨?_, ?_⟩
  · refine ⟨126, ?_⟩
    refine ⟨?_, ?_⟩
    · refine int_eq ?_
      omega
    exact (if_neg (by omega)).symm
  rfl
section
variable {o k : Int} {xs : List Int} {b : Bool}
theorem plnAP (h : numS o = (xs, k, b)) (hb : b = true) : plnS o = (xs, [k], true) := by
  unfold plnS; rw [h]; exact if_pos hb
theorem plnNP (h : numS o = (xs, k, b)) (hb : b = false) : plnS o = if 0 < wid o ∧ o < 54 then ([127], [kindAt o], true) else if 0 < wid o then ([127, kindAt o], [], true) else if o = 63 then ([], [127], true) else if o = 64 then ([127], [127], true) else if o = 65 then ([], [127], true) else if o = 66 then ([], [126], true) else ([], [], false) := by
  unfold plnS; rw [h]; exact if_neg (by simp [hb])
end
theorem plainP (o : Int) (w : World) : Fc Tryd.prog 164 #[.int .u8 o] w (fun v w' => ∃ u y xs ys q, v = .tuple #[u, y, .bool q] ∧ plnS o = (xs, ys, q) ∧ Sat (froz w) w' [Sl 60 1 enK y ys, Sl 60 1 enK u xs]) := by
  refine Fc.of Tryd.func164 rfl (by kernel_rfl) ?_
  have H := Sat.start w
  refine CallP.mk (Fc.imp (Go.Proofs.YtcpniokopahakaaDoor.Ins.numeric _ _) ?_)
  rintro _ w1 ⟨u1, ⟨k1, ⟨b1, ⟨xs1, ⟨rfl, ⟨h1, H'⟩⟩⟩⟩⟩⟩
  refine H.mergeK H' ?_
  clear H H'
  intro H
  refine cI (fun c1 => ?_) (fun c1 => ?_)
  · refine rBuildSliceS H rfl rfl rfl rfl ?_
    clear H
    intro p1 w2 H
    clear w1
    refine Done.mk ?_
    (refine H.ptSl (n := 1) (en := enK) (s := 1) 0 rfl [_] rfl rfl (fun _ => rfl) rfl ?_; intro H; exact ⟨_, _, _, _, _, rfl, plnAP h1 (by assumption), H⟩)
  refine bk ?_
  refine CallP.mk (Fc.imp (Go.Proofs.YtcpniokopahakaaDoor.Ins.width _ _) ?_)
  rintro _ _ ⟨⟨r1, ⟨rfl, h2⟩⟩, rfl⟩
  refine br (fun c2 => ?_) (fun c2 => ?_)
  · replace c2 := vLt_t (c2)
    refine cI (fun c3 => ?_) (fun c3 => ?_)
    · replace c3 := vLt_t (c3)
      refine rBuildSliceS H rfl rfl rfl rfl ?_
      clear H
      intro p1 w2 H
      clear w1
      refine CallP.mk (Fc.imp (Go.Proofs.YtcpniokopahakaaDoor.Valid.kindAtP _ _) ?_)
      rintro _ _ ⟨⟨r2, ⟨rfl, h3⟩⟩, rfl⟩
      refine rBuildSliceS H rfl rfl rfl rfl ?_
      clear H
      intro p2 w1 H
      clear w2
      refine Done.mk ?_
      (refine H.ptSl (n := 1) (en := enK) (s := 1) 0 rfl [_] rfl rfl (fun _ => rfl) rfl ?_; intro H; refine H.ptSl (n := 1) (en := enK) (s := 1) 1 rfl [_] rfl rfl (fun _ => rfl) rfl ?_; intro H; exact ⟨_, _, _, _, _, rfl, (plnNP h1 (by assumption)).trans (by repeat first | rw [if_pos (by omega)] | rw [if_neg (by omega)] | (subst_vars; rfl)), H.del 2⟩)
    replace c3 := vLt_f (c3)
    refine CallP.mk (Fc.imp (Go.Proofs.YtcpniokopahakaaDoor.Ins.width _ _) ?_)
    rintro _ _ ⟨⟨r2, ⟨rfl, h3⟩⟩, rfl⟩
    refine cT (vLt_T (by omega)) ?_
    refine CallP.mk (Fc.imp (Go.Proofs.YtcpniokopahakaaDoor.Valid.kindAtP _ _) ?_)
    rintro _ _ ⟨⟨r3, ⟨rfl, h4⟩⟩, rfl⟩
    refine rBuildSliceS H rfl rfl rfl rfl ?_
    clear H
    intro p1 w2 H
    clear w1
    refine Done.mk ?_
    (refine H.ptSl (n := 2) (en := enK) (s := 1) 0 rfl [_, _] rfl rfl (fun _ => rfl) rfl ?_; intro H; exact ⟨_, _, _, _, _, rfl, (plnNP h1 (by assumption)).trans (by repeat first | rw [if_pos (by omega)] | rw [if_neg (by omega)] | (subst_vars; rfl)), (H.sl0 (en := enK) (s := 1) 60 (fun _ => rfl)).del 2⟩)
  replace c2 := vLt_f (c2)
  refine cF rfl ?_
  refine CallP.mk (Fc.imp (Go.Proofs.YtcpniokopahakaaDoor.Ins.width _ _) ?_)
  rintro _ _ ⟨⟨r2, ⟨rfl, h3⟩⟩, rfl⟩
  refine cF (vLt_F (by omega)) ?_
  refine cI (fun c3 => ?_) (fun c3 => ?_)
  · replace c3 := vEq_t (c3)
    refine rBuildSliceS H rfl rfl rfl rfl ?_
    clear H
    intro p1 w2 H
    clear w1
    refine Done.mk ?_
    (refine H.ptSl (n := 1) (en := enK) (s := 1) 0 rfl [_] rfl rfl (fun _ => rfl) rfl ?_; intro H; exact ⟨_, _, _, _, _, rfl, (plnNP h1 (by assumption)).trans (by repeat first | rw [if_pos (by omega)] | rw [if_neg (by omega)] | (subst_vars; rfl)), ((H.sl0 (en := enK) (s := 1) 60 (fun _ => rfl)).front (j := 1) rfl).del 2⟩)
  replace c3 := vEq_f (c3)
  refine cI (fun c4 => ?_) (fun c4 => ?_)
  · replace c4 := vEq_t (c4)
    refine rBuildSliceS H rfl rfl rfl rfl ?_
    clear H
    intro p1 w2 H
    clear w1
    refine rBuildSliceS H rfl rfl rfl rfl ?_
    clear H
    intro p2 w1 H
    clear w2
    refine Done.mk ?_
    (refine H.ptSl (n := 1) (en := enK) (s := 1) 0 rfl [_] rfl rfl (fun _ => rfl) rfl ?_; intro H; refine H.ptSl (n := 1) (en := enK) (s := 1) 1 rfl [_] rfl rfl (fun _ => rfl) rfl ?_; intro H; exact ⟨_, _, _, _, _, rfl, (plnNP h1 (by assumption)).trans (by repeat first | rw [if_pos (by omega)] | rw [if_neg (by omega)] | (subst_vars; rfl)), H.del 2⟩)
  replace c4 := vEq_f (c4)
  refine cI (fun c5 => ?_) (fun c5 => ?_)
  · replace c5 := vEq_t (c5)
    refine rBuildSliceS H rfl rfl rfl rfl ?_
    clear H
    intro p1 w2 H
    clear w1
    refine Done.mk ?_
    (refine H.ptSl (n := 1) (en := enK) (s := 1) 0 rfl [_] rfl rfl (fun _ => rfl) rfl ?_; intro H; exact ⟨_, _, _, _, _, rfl, (plnNP h1 (by assumption)).trans (by repeat first | rw [if_pos (by omega)] | rw [if_neg (by omega)] | (subst_vars; rfl)), ((H.sl0 (en := enK) (s := 1) 60 (fun _ => rfl)).front (j := 1) rfl).del 2⟩)
  replace c5 := vEq_f (c5)
  refine cI (fun c6 => ?_) (fun c6 => ?_)
  · replace c6 := vEq_t (c6)
    refine rBuildSliceS H rfl rfl rfl rfl ?_
    clear H
    intro p1 w2 H
    clear w1
    refine Done.mk ?_
    (refine H.ptSl (n := 1) (en := enK) (s := 1) 0 rfl [_] rfl rfl (fun _ => rfl) rfl ?_; intro H; exact ⟨_, _, _, _, _, rfl, (plnNP h1 (by assumption)).trans (by repeat first | rw [if_pos (by omega)] | rw [if_neg (by omega)] | (subst_vars; rfl)), ((H.sl0 (en := enK) (s := 1) 60 (fun _ => rfl)).front (j := 1) rfl).del 2⟩)
  replace c6 := vEq_f (c6)
  refine Done.mk ?_
  exact ⟨_, _, _, _, _, rfl, (plnNP h1 (by assumption)).trans (by repeat first | rw [if_pos (by omega)] | rw [if_neg (by omega)] | (subst_vars; rfl)), ((H.sl0 (en := enK) (s := 1) 60 (fun _ => rfl)).sl0 (en := enK) (s := 1) 60 (fun _ => rfl)).del 2⟩
end Go.Proofs.YtcpniokopahakaaDoor.Valid
