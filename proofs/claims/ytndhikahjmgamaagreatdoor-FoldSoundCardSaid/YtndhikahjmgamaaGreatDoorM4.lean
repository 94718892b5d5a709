/- Texts of this claim, one behind the other. -/
import Derived.Shelf.Unicode.ValidAny
import Derived.Ground.NamesProg
import Derived.Test.YtndhikahjmgamaaGreatDoorProg
import Derived.Test.YtndhikahjmgamaaGreatDoorM2
import Derived.Test.YtndhikahjmgamaaGreatDoorM3
/-
  DERIVED: THE SHELF's CONTRACTS AT THIS DUMP, IN PLAIN WORDS (tools/lay-plain.mjs out of 'TryzShelf.lean', which tools/lay-shelf.mjs wrote): THE SAME DECLARATIONS UNDER THE SAME NAMES: 'import', 'namespace', 'open', 'def', 'theorem' AND NOTHING ELSE: no command of the shelf's: FOR A HAND-IN. Each laying: the table of numbers ('.._ren') and one theorem, a field a fact of the dump's own or the kernel's comparison; each contract: ONE APPLICATION.
-/
namespace Go.Proofs
open Go.Shelf
def Tryz.lays196_ren : Go.Shelf.Ren := ⟨fun | 196 => 147 | 259 => 155 | n => n, fun | 9 => 9 | 4 => 4 | 3 => 3 | 5 => 5 | 12 => 12 | 119 => 223 | 0 => 0 | 46 => 213 | 139 => 226 | 138 => 225 | 53 => 182 | n => n, fun | 3 => 2 | 4 => 3 | n => n⟩
theorem Tryz.lays196 : Go.Proofs.Lays.n196 Tryz.prog Tryz.lays196_ren := {
  mixed := by kernel_rfl
  f196 := Tryz.func147.trans (congrArg some (by kernel_rfl))
  f259 := Tryz.func155.trans (congrArg some (by kernel_rfl))
  t0 := Tryz.underlying0
  a0 := Tryz.isAgg0
  z0 := Tryz.sizeOf0
  v0 := Tryz.zeroValue0
  t3 := Tryz.underlying3
  a3 := Tryz.isAgg3
  z3 := Tryz.sizeOf3
  v3 := Tryz.zeroValue3
  t4 := Tryz.underlying4
  a4 := Tryz.isAgg4
  z4 := Tryz.sizeOf4
  v4 := Tryz.zeroValue4
  t5 := Tryz.underlying5
  a5 := Tryz.isAgg5
  z5 := Tryz.sizeOf5
  v5 := Tryz.zeroValue5
  t9 := Tryz.underlying9
  a9 := Tryz.isAgg9
  z9 := Tryz.sizeOf9
  v9 := Tryz.zeroValue9
  t12 := Tryz.underlying12
  a12 := Tryz.isAgg12
  z12 := Tryz.sizeOf12
  v12 := Tryz.zeroValue12
  t46 := Tryz.underlying213
  a46 := Tryz.isAgg213
  z46 := Tryz.sizeOf213
  v46 := Tryz.zeroValue213
  t53 := Tryz.underlying182
  a53 := Tryz.isAgg182
  z53 := Tryz.sizeOf182
  v53 := Tryz.zeroValue182
  t119 := Tryz.underlying223
  a119 := Tryz.isAgg223
  z119 := Tryz.sizeOf223
  t138 := Tryz.underlying225
  a138 := Tryz.isAgg225
  z138 := Tryz.sizeOf225
  v138 := Tryz.zeroValue225
  t139 := Tryz.underlying226
  a139 := Tryz.isAgg226
  z139 := Tryz.sizeOf226
  v139 := Tryz.zeroValue226
  g3 := by kernel_rfl
  g4 := by kernel_rfl }
open Go.RowKit Go.Lib in
/-- x -/
theorem Tryz.utf8_ValidString (s : ByteArray) (w : World) (hs : s.size ≤ 9223372036854775807) (hT : Lib.Utf8Tabs (Tryz.lays196_ren.g 3) (Tryz.lays196_ren.g 4) w) :
    Calls Tryz.prog (Tryz.lays196_ren.f 196) #[.string s] w fun e w' => e = .returned (.bool (Lib.validD s.data.toList)) ∧ Below w.heap.size w w' := Any.utf8_ValidString Tryz.lays196 s w hs hT
end Go.Proofs
/- Package leb: names that are written; utf8.ValidString. -/
set_option maxRecDepth 100000
set_option maxHeartbeats 4000000
set_option linter.unusedVariables false
set_option linter.unusedSimpArgs false
namespace Go.Proofs.YtndhikahjmgamaaGreatDoor.Leb
open Go Go.Proofs.YtndhikahjmgamaaGreatDoor.Eng Go.RowKit
section
variable {g : Glob} {w : World} {l : List As}
/-- The tables of unicode/utf8 lie frozen. -/
def U8F (g : Glob) : Prop := ∀ (w : World) (l : List As), Sat g w l → Lib.Utf8Tabs (Tryz.lays196_ren.g 3) (Tryz.lays196_ren.g 4) w
theorem bs_list (s : List UInt8) : (bs s).data.toList = s := by unfold bs; simp
theorem validString (H : Sat g w l) (hT : U8F g) (s : List UInt8) (hs : s.length ≤ 9223372036854775807) : Fc Tryz.prog 147 #[.string (bs s)] w (fun v w' => ∃ b, v = .bool b ∧ b = Lib.validD s ∧ Sat g w' l) := by
  refine Fc.ofCalls Tryz.func147 rfl (by kernel_rfl) ?_
  refine (Tryz.utf8_ValidString (bs s) w (by rw [bs_size]; exact hs) (hT w l H)).mono ?_
  rintro e w' ⟨rfl, hb⟩
  exact ⟨_, rfl, _, rfl, by rw [bs_list], H.below hb⟩
def nameE (s : List UInt8) : Int := if 16 < s.length then 2 else if Lib.validD s = true then 0 else 4
theorem name (H : Sat g w l) (hT : U8F g) (s : List UInt8) (hs : s.length ≤ 9223372036854775807) : Fc Tryz.prog 122 #[.string (bs s)] w (fun v w' => ∃ t e, v = .tuple #[.string (bs t), .int .i64 e] ∧ e = nameE s ∧ t = (if nameE s = 0 then uleb s.length ++ s else []) ∧ t.length ≤ 30 ∧ Sat g w' l) := by
  refine Fc.of Tryz.func122 rfl (by kernel_rfl) ?_
  by_cases h16 : 16 < s.length
  · have hE : nameE s = 2 := if_pos h16
    rw [hE, if_neg (by decide)]
    refine bk ?_
    refine rLenStr rfl ?_
    refine cT (vLt_T (by omega)) ?_
    refine Done.mk ?_
    refine ⟨[], 2, ?_⟩
    refine ⟨?_, ?_⟩
    · rfl
    refine ⟨?_, ?_⟩
    · omega
    refine ⟨?_, ?_⟩
    · rfl
    refine ⟨?_, ?_⟩
    · (simp only [List.length_append, List.length_set, List.length_cons, List.length_nil]; omega)
    exact H
  · cases hv : Lib.validD s
    · have hE : nameE s = 4 := by unfold nameE; rw [if_neg h16, if_neg (by rw [hv]; decide)]
      rw [hE, if_neg (by decide)]
      refine bk ?_
      refine rLenStr rfl ?_
      refine cF (vLt_F (by omega)) ?_
      refine CallP.mk (Fc.imp (Go.Proofs.YtndhikahjmgamaaGreatDoor.Leb.validString H ?_ _ ?_) ?_)
      · assumption
      · assumption
      clear H
      rintro _ w1 ⟨b1, ⟨rfl, ⟨h1, H⟩⟩⟩
      rw [hv] at h1
      subst h1
      refine cT rfl ?_
      refine Done.mk ?_
      refine ⟨[], 4, ?_⟩
      refine ⟨?_, ?_⟩
      · rfl
      refine ⟨?_, ?_⟩
      · omega
      refine ⟨?_, ?_⟩
      · rfl
      refine ⟨?_, ?_⟩
      · (simp only [List.length_append, List.length_set, List.length_cons, List.length_nil]; omega)
      exact H
    · have hE : nameE s = 0 := by unfold nameE; rw [if_neg h16, if_pos hv]
      rw [hE, if_pos rfl]
      refine bk ?_
      refine rLenStr rfl ?_
      refine cF (vLt_F (by omega)) ?_
      refine CallP.mk (Fc.imp (Go.Proofs.YtndhikahjmgamaaGreatDoor.Leb.validString H ?_ _ ?_) ?_)
      · assumption
      · assumption
      clear H
      rintro _ w1 ⟨b1, ⟨rfl, ⟨h1, H⟩⟩⟩
      rw [hv] at h1
      subst h1
      refine cF rfl ?_
      refine rLenStr rfl ?_
      refine rConvU64 (by omega) rfl rfl ?_
      refine CallP.mk (Fc.imp (Go.Proofs.YtndhikahjmgamaaGreatDoor.Leb.U _ (s.length) ?_ ?_ _) ?_)
      · omega
      · omega
      rintro _ w2 ⟨l1, ⟨rfl, ⟨h1, ⟨h2, H'⟩⟩⟩⟩
      refine H.mergeK H' ?_
      clear H H'
      intro H
      refine rCat (by omega) ?_
      refine Done.mk ?_
      refine ⟨l1 ++ s, 0, ?_⟩
      refine ⟨?_, ?_⟩
      · rfl
      refine ⟨?_, ?_⟩
      · omega
      refine ⟨?_, ?_⟩
      · (simp; omega)
      refine ⟨?_, ?_⟩
      · (simp only [List.length_append, List.length_set, List.length_cons, List.length_nil]; omega)
      exact H
end
end Go.Proofs.YtndhikahjmgamaaGreatDoor.Leb
/- Modules: as they lie, and what is asked of them. -/
set_option maxRecDepth 100000
set_option maxHeartbeats 4000000
set_option linter.unusedVariables false
set_option linter.unusedSimpArgs false
namespace Go.Proofs.YtndhikahjmgamaaGreatDoor.Bin
open Go Go.Proofs.YtndhikahjmgamaaGreatDoor.Eng Go.RowKit
open Ins Nest Leb
/-- The first error. -/
def fst (a b : Int) : Int := if a = 0 then b else a
theorem fst_0 (b : Int) : fst 0 b = b := if_pos rfl
theorem fst_ne {a : Int} (b : Int) (h : a ≠ 0) : fst a b = a := if_neg h
theorem fst_z (a : Int) : fst a 0 = a := by unfold fst; split <;> simp [*]
theorem fst_assoc (a b c : Int) : fst (fst a b) c = fst a (fst b c) := by
  unfold fst
  by_cases h : a = 0
  · rw [if_pos h, if_pos h]
  · rw [if_neg h, if_neg h, if_neg h]
theorem fst_eq0 {a b : Int} : fst a b = 0 ↔ a = 0 ∧ b = 0 := by
  unfold fst
  by_cases h : a = 0
  · rw [if_pos h]; simp [h]
  · rw [if_neg h]; simp [h]
/-- The first error so far, and one more. -/
def FE (b e c : Int) : Prop := c = fst b e
theorem FE.eq {b e c : Int} (h : FE b e c) : c = fst b e := h
theorem FE.two {b c d e f : Int} (h : FE b e c) (h' : FE c f d) : FE b (fst e f) d := by
  unfold FE at *; rw [h', h, fst_assoc]
def kindE (k : Int) : Int := if k = 127 ∨ k = 126 then 0 else 1
def indexE (n : Int) : Int := if 0 ≤ n ∧ n ≤ 4294967295 then 0 else 1
def placeE (n : Int) : Int := if -2147483648 ≤ n ∧ n ≤ 2147483647 then 0 else 1
def allE {α : Type} (f : α → Int) : List α → Int
  | [] => 0
  | x :: r => fst (f x) (allE f r)
def manyE (n : Nat) (m : Int) : Int := if (n : Int) ≤ m then 0 else 2
def eachE {α : Type} (m : Int) (f : α → Int) (l : List α) : Int := fst (manyE l.length m) (allE f l)
theorem allE_map {α β : Type} (f : β → Int) (d : α → β) (l : List α) : allE f (l.map d) = allE (fun x => f (d x)) l := by
  induction l with
  | nil => rfl
  | cons x r ih => rw [List.map_cons, allE, allE, ih]
theorem eachE_map {α β : Type} (m : Int) (f : β → Int) (d : α → β) (l : List α) : eachE m f (l.map d) = eachE m (fun x => f (d x)) l := by
  unfold eachE; rw [allE_map, List.length_map]
theorem allE_0 {α : Type} {f : α → Int} {l : List α} : allE f l = 0 ↔ ∀ x ∈ l, f x = 0 := by
  induction l with
  | nil => simp [allE]
  | cons x r ih => rw [allE, fst_eq0, ih]; simp
theorem eachE_0 {α : Type} {m : Int} {f : α → Int} {l : List α} : eachE m f l = 0 ↔ (l.length : Int) ≤ m ∧ ∀ x ∈ l, f x = 0 := by
  unfold eachE manyE
  rw [fst_eq0, allE_0]
  by_cases h : (l.length : Int) ≤ m
  · rw [if_pos h]; simp [h]
  · rw [if_neg h]; simp [h]
structure SigD where
  inn : List Int
  out : List Int
structure FunD where
  ty : Int
  loc : List Int
  body : List InsD
structure ModD where
  types : List SigD
  imps : List (List UInt8 × Int)
  funcs : List FunD
  table : Int
  pages : Int
  most : Int
  globals : List (Int × Bool × Int)
  exps : List (List UInt8 × Int)
  start : Int
  elems : List (Int × List Int)
  data : List (Int × List UInt8)
def sigE (s : SigD) : Int := fst (eachE 4 kindE s.inn) (eachE 1 kindE s.out)
def impE (x : List UInt8 × Int) : Int := fst (nameE x.1) (indexE x.2)
def funE (f : FunD) : Int := fst (indexE f.ty) (fst (eachE 16 kindE f.loc) (chkB f.body))
def startE (k n : Int) : Int := if k ≠ 127 ∨ (-2147483648 ≤ n ∧ n ≤ 2147483647) then 0 else 1
def gloE (x : Int × Bool × Int) : Int := fst (kindE x.1) (startE x.1 x.2.2)
def elE (x : Int × List Int) : Int := fst (placeE x.1) (eachE 16 indexE x.2)
def datE (x : Int × List UInt8) : Int := fst (placeE x.1) (manyE x.2.length 64)
def geE (a b : Int) : Int := if a ≤ b then 0 else 1
def pagE (p m : Int) : Int := if 0 ≤ p ∧ p ≤ m then 0 else 1
def leE (a b : Int) : Int := if a ≤ b then 0 else 2
def chkM (m : ModD) : Int :=
  fst (eachE 16 sigE m.types) (fst (eachE 16 impE m.imps) (fst (eachE 16 funE m.funcs) (fst (geE 0 m.table) (fst (leE m.table 16) (fst (pagE m.pages m.most) (fst (leE m.most 8)
    (fst (eachE 8 gloE m.globals) (fst (eachE 8 impE m.exps) (fst (indexE m.start) (fst (eachE 4 elE m.elems) (eachE 4 datE m.data)))))))))))
structure SigV where
  vi : Value
  inn : List Int
  vo : Value
  out : List Int
structure FunV where
  ty : Int
  vl : Value
  loc : List Int
  vb : Value
  body : List InsV
structure ElV where
  pl : Int
  vf : Value
  fs : List Int
structure ModV where
  vt : Value
  types : List SigV
  vm : Value
  imps : List (List UInt8 × Int)
  vf : Value
  funcs : List FunV
  table : Int
  pages : Int
  most : Int
  vg : Value
  globals : List (Int × Bool × Int)
  vx : Value
  exps : List (List UInt8 × Int)
  start : Int
  ve : Value
  elems : List ElV
  vd : Value
  data : List (Int × List UInt8)
def SigV.d (x : SigV) : SigD := ⟨x.inn, x.out⟩
def FunV.d (x : FunV) : FunD := ⟨x.ty, x.loc, x.body.map InsV.d⟩
def ElV.d (x : ElV) : Int × List Int := (x.pl, x.fs)
def ModV.d (m : ModV) : ModD := ⟨m.types.map SigV.d, m.imps, m.funcs.map FunV.d, m.table, m.pages, m.most, m.globals, m.exps, m.start, m.elems.map ElV.d, m.data⟩
def enSg (x : SigV) : List Value := [x.vi, x.vo]
def enIm (x : List UInt8 × Int) : List Value := [.string (bs x.1), .int .i64 x.2]
def enFn (x : FunV) : List Value := [.int .i64 x.ty, x.vl, x.vb]
def enGl (x : Int × Bool × Int) : List Value := [.int .u8 x.1, .bool x.2.1, .int .i64 x.2.2]
def enEl (x : ElV) : List Value := [.int .i64 x.pl, x.vf]
def enDt (x : Int × List UInt8) : List Value := [.int .i64 x.1, .string (bs x.2)]
def enMd (m : ModV) : List Value := [m.vt, m.vm, m.vf, .int .i64 m.table, .int .i64 m.pages, .int .i64 m.most, m.vg, m.vx, .int .i64 m.start, m.ve, m.vd]
structure okSg (g : Glob) (x : SigV) : Prop where
  inn : FSl g enK U8 1 x.vi x.inn
  out : FSl g enK U8 1 x.vo x.out
structure okIm (x : List UInt8 × Int) : Prop where
  name : x.1.length ≤ 9223372036854775807
  ty : I64 x.2
structure okFn (g : Glob) (x : FunV) : Prop where
  ty : I64 x.ty
  loc : FSl g enK U8 1 x.vl x.loc
  body : FSl g enV (okV g) 4 x.vb x.body
structure okGl (x : Int × Bool × Int) : Prop where
  kind : U8 x.1
  start : I64 x.2.2
structure okEl (g : Glob) (x : ElV) : Prop where
  pl : I64 x.pl
  fs : FSl g enI okI 1 x.vf x.fs
structure okDt (x : Int × List UInt8) : Prop where
  pl : I64 x.1
  bytes : x.2.length ≤ 9223372036854775807
structure okMd (g : Glob) (m : ModV) : Prop where
  types : FSl g enSg (okSg g) 2 m.vt m.types
  imps : FSl g enIm okIm 2 m.vm m.imps
  funcs : FSl g enFn (okFn g) 3 m.vf m.funcs
  table : I64 m.table
  pages : I64 m.pages
  most : I64 m.most
  globals : FSl g enGl okGl 3 m.vg m.globals
  exps : FSl g enIm okIm 2 m.vx m.exps
  start : I64 m.start
  elems : FSl g enEl (okEl g) 2 m.ve m.elems
  data : FSl g enDt okDt 2 m.vd m.data
end Go.Proofs.YtndhikahjmgamaaGreatDoor.Bin
/- Modules compared. -/
set_option maxRecDepth 100000
set_option maxHeartbeats 4000000
set_option linter.unusedVariables false
set_option linter.unusedSimpArgs false
namespace Go.Proofs.YtndhikahjmgamaaGreatDoor.Bin
open Go Go.Proofs.YtndhikahjmgamaaGreatDoor.Eng Go.RowKit
open Ins Nest Leb
section
variable {g : Glob} {w : World} {l : List As}
def EqTo {α : Type} (xs ys : List α) (i : Nat) : Prop := ∀ q, q < i → xs[q]? = ys[q]?
theorem EqTo.zero {α : Type} (xs ys : List α) : EqTo xs ys 0 := fun q h => absurd h (Nat.not_lt_zero q)
end
end Go.Proofs.YtndhikahjmgamaaGreatDoor.Bin
/- slices.Clone, for each type within a module. -/
set_option maxRecDepth 100000
set_option maxHeartbeats 4000000
set_option linter.unusedVariables false
set_option linter.unusedSimpArgs false
namespace Go.Proofs.YtndhikahjmgamaaGreatDoor.Fold
open Go Go.Proofs.YtndhikahjmgamaaGreatDoor.Eng Go.RowKit
open Ins Nest Leb Bin
section
variable {g : Glob} {w : World} {l : List As}
theorem sl_form {α : Type} {e : TypeId} {s : Nat} {en : α → List Value} {u : Value} {xs : List α} (H : Sat g w (Sl e s en u xs :: l)) : ∃ a c, u = .slice a xs.length c ∧ Sat g w (Sl e s en (.slice a xs.length c) xs :: l) := by
  obtain ⟨a, c, rfl⟩ := H.form 0 rfl
  exact ⟨a, c, rfl, H⟩
theorem clnSg (H : Sat g w l) (v : Value) (xs : List SigV) (hx : FSl g enSg (okSg g) 2 v xs) (hl : xs.length ≤ 1000) : Fc Tryz.prog 35 #[v] w (fun u w' => Sat g w' (Sl 68 2 enSg u xs :: l)) := by
  have ho1 : ∀ y ∈ xs, ((enSg y).all (·.oneCell')) = true := fun y h => by have o := FSl.all hx y h; simp only [enSg, List.all_cons, List.all_nil, FSl.one o.inn, FSl.one o.out]; rfl
  refine Fc.of Tryz.func35 rfl (by kernel_rfl) ?_
  rcases FSl.nilOr hx with ⟨EN1, EN2⟩ | ⟨b1, c1, V1⟩
  · subst EN1
    subst EN2
    refine rSlNil rfl ?_
    refine cT rfl ?_
    refine Done.mk ?_
    replace H := H.sl0 (en := enSg) (s := 2) (68) (fun _ => rfl)
    exact H
  subst V1
  refine rSlNil rfl ?_
  refine cF rfl ?_
  refine rBuildSliceS H rfl rfl rfl rfl ?_
  clear H
  intro p1 w1 H
  refine H.ptSl (n := 0) (en := enSg) (s := 2) 0 rfl [] rfl rfl (fun _ => rfl) rfl ?_
  clear H
  intro H
  refine rApR 48 H 0 rfl (H.rd hx) (by assumption) rfl rfl rfl (by (simp only [List.length_append, List.length_set, List.length_cons, List.length_nil]; omega)) (by (simp only [List.length_append, List.length_set, List.length_cons, List.length_nil]; omega)) ?_
  intro v1
  clear H
  intro w2 H
  clear w1
  refine Done.mk ?_
  exact H
theorem clnIm (H : Sat g w l) (v : Value) (xs : List (List UInt8 × Int)) (hx : FSl g enIm okIm 2 v xs) (hl : xs.length ≤ 1000) : Fc Tryz.prog 37 #[v] w (fun u w' => Sat g w' (Sl 101 2 enIm u xs :: l)) := by
  refine Fc.of Tryz.func37 rfl (by kernel_rfl) ?_
  rcases FSl.nilOr hx with ⟨EN1, EN2⟩ | ⟨b1, c1, V1⟩
  · subst EN1
    subst EN2
    refine rSlNil rfl ?_
    refine cT rfl ?_
    refine Done.mk ?_
    replace H := H.sl0 (en := enIm) (s := 2) (101) (fun _ => rfl)
    exact H
  subst V1
  refine rSlNil rfl ?_
  refine cF rfl ?_
  refine rBuildSliceS H rfl rfl rfl rfl ?_
  clear H
  intro p1 w1 H
  refine H.ptSl (n := 0) (en := enIm) (s := 2) 0 rfl [] rfl rfl (fun _ => rfl) rfl ?_
  clear H
  intro H
  refine rApR 24 H 0 rfl (H.rd hx) (fun y _ => rfl) rfl rfl rfl (by (simp only [List.length_append, List.length_set, List.length_cons, List.length_nil]; omega)) (by (simp only [List.length_append, List.length_set, List.length_cons, List.length_nil]; omega)) ?_
  intro v1
  clear H
  intro w2 H
  clear w1
  refine Done.mk ?_
  exact H
theorem clnXp (H : Sat g w l) (v : Value) (xs : List (List UInt8 × Int)) (hx : FSl g enIm okIm 2 v xs) (hl : xs.length ≤ 1000) : Fc Tryz.prog 39 #[v] w (fun u w' => Sat g w' (Sl 107 2 enIm u xs :: l)) := by
  refine Fc.of Tryz.func39 rfl (by kernel_rfl) ?_
  rcases FSl.nilOr hx with ⟨EN1, EN2⟩ | ⟨b1, c1, V1⟩
  · subst EN1
    subst EN2
    refine rSlNil rfl ?_
    refine cT rfl ?_
    refine Done.mk ?_
    replace H := H.sl0 (en := enIm) (s := 2) (107) (fun _ => rfl)
    exact H
  subst V1
  refine rSlNil rfl ?_
  refine cF rfl ?_
  refine rBuildSliceS H rfl rfl rfl rfl ?_
  clear H
  intro p1 w1 H
  refine H.ptSl (n := 0) (en := enIm) (s := 2) 0 rfl [] rfl rfl (fun _ => rfl) rfl ?_
  clear H
  intro H
  refine rApR 24 H 0 rfl (H.rd hx) (fun y _ => rfl) rfl rfl rfl (by (simp only [List.length_append, List.length_set, List.length_cons, List.length_nil]; omega)) (by (simp only [List.length_append, List.length_set, List.length_cons, List.length_nil]; omega)) ?_
  intro v1
  clear H
  intro w2 H
  clear w1
  refine Done.mk ?_
  exact H
theorem clnGl (H : Sat g w l) (v : Value) (xs : List (Int × Bool × Int)) (hx : FSl g enGl okGl 3 v xs) (hl : xs.length ≤ 1000) : Fc Tryz.prog 38 #[v] w (fun u w' => Sat g w' (Sl 104 3 enGl u xs :: l)) := by
  refine Fc.of Tryz.func38 rfl (by kernel_rfl) ?_
  rcases FSl.nilOr hx with ⟨EN1, EN2⟩ | ⟨b1, c1, V1⟩
  · subst EN1
    subst EN2
    refine rSlNil rfl ?_
    refine cT rfl ?_
    refine Done.mk ?_
    replace H := H.sl0 (en := enGl) (s := 3) (104) (fun _ => rfl)
    exact H
  subst V1
  refine rSlNil rfl ?_
  refine cF rfl ?_
  refine rBuildSliceS H rfl rfl rfl rfl ?_
  clear H
  intro p1 w1 H
  refine H.ptSl (n := 0) (en := enGl) (s := 3) 0 rfl [] rfl rfl (fun _ => rfl) rfl ?_
  clear H
  intro H
  refine rApR 16 H 0 rfl (H.rd hx) (fun y _ => rfl) rfl rfl rfl (by (simp only [List.length_append, List.length_set, List.length_cons, List.length_nil]; omega)) (by (simp only [List.length_append, List.length_set, List.length_cons, List.length_nil]; omega)) ?_
  intro v1
  clear H
  intro w2 H
  clear w1
  refine Done.mk ?_
  exact H
theorem clnK (H : Sat g w l) (v : Value) (xs : List Int) (hx : FSl g enK U8 1 v xs) (hl : xs.length ≤ 1000) : Fc Tryz.prog 36 #[v] w (fun u w' => ∃ a c, u = .slice a xs.length c ∧ Sat g w' (Sl 98 1 enK (.slice a xs.length c) xs :: l)) := by
  refine Fc.of Tryz.func36 rfl (by kernel_rfl) ?_
  rcases FSl.nilOr hx with ⟨EN1, EN2⟩ | ⟨b1, c1, V1⟩
  · subst EN1
    subst EN2
    refine rSlNil rfl ?_
    refine cT rfl ?_
    refine Done.mk ?_
    refine ⟨none, 0, ?_⟩
    refine ⟨?_, ?_⟩
    · rfl
    replace H := H.sl0 (en := enK) (s := 1) (98) (fun _ => rfl)
    exact H
  subst V1
  refine rSlNil rfl ?_
  refine cF rfl ?_
  refine rBuildSliceS H rfl rfl rfl rfl ?_
  clear H
  intro p1 w1 H
  refine H.ptSl (n := 0) (en := enK) (s := 1) 0 rfl [] rfl rfl (fun _ => rfl) rfl ?_
  clear H
  intro H
  refine rApR 1 H 0 rfl (H.rd hx) (fun y _ => rfl) rfl rfl rfl (by (simp only [List.length_append, List.length_set, List.length_cons, List.length_nil]; omega)) (by (simp only [List.length_append, List.length_set, List.length_cons, List.length_nil]; omega)) ?_
  intro v1
  clear H
  intro w2 H
  clear w1
  refine Done.mk ?_
  exact sl_form H
theorem clnN (H : Sat g w l) (v : Value) (xs : List Int) (hx : FSl g enI okI 1 v xs) (hl : xs.length ≤ 1000) : Fc Tryz.prog 42 #[v] w (fun u w' => ∃ a c, u = .slice a xs.length c ∧ Sat g w' (Sl 3 1 enI (.slice a xs.length c) xs :: l)) := by
  refine Fc.of Tryz.func42 rfl (by kernel_rfl) ?_
  rcases FSl.nilOr hx with ⟨EN1, EN2⟩ | ⟨b1, c1, V1⟩
  · subst EN1
    subst EN2
    refine rSlNil rfl ?_
    refine cT rfl ?_
    refine Done.mk ?_
    refine ⟨none, 0, ?_⟩
    refine ⟨?_, ?_⟩
    · rfl
    replace H := H.sl0 (en := enI) (s := 1) (3) (fun _ => rfl)
    exact H
  subst V1
  refine rSlNil rfl ?_
  refine cF rfl ?_
  refine rBuildSliceS H rfl rfl rfl rfl ?_
  clear H
  intro p1 w1 H
  refine H.ptSl (n := 0) (en := enI) (s := 1) 0 rfl [] rfl rfl (fun _ => rfl) rfl ?_
  clear H
  intro H
  refine rApR 8 H 0 rfl (H.rd hx) (fun y _ => rfl) rfl rfl rfl (by (simp only [List.length_append, List.length_set, List.length_cons, List.length_nil]; omega)) (by (simp only [List.length_append, List.length_set, List.length_cons, List.length_nil]; omega)) ?_
  intro v1
  clear H
  intro w2 H
  clear w1
  refine Done.mk ?_
  exact sl_form H
theorem clnFn (H : Sat g w l) (v : Value) (xs : List FunV) (hx : FSl g enFn (okFn g) 3 v xs) (hl : xs.length ≤ 1000) : Fc Tryz.prog 43 #[v] w (fun u w' => Sat g w' (Sl 50 3 enFn u xs :: l)) := by
  have ho1 : ∀ y ∈ xs, ((enFn y).all (·.oneCell')) = true := fun y h => by have o := FSl.all hx y h; simp only [enFn, List.all_cons, List.all_nil, FSl.one o.loc, FSl.one o.body]; rfl
  refine Fc.of Tryz.func43 rfl (by kernel_rfl) ?_
  rcases FSl.nilOr hx with ⟨EN1, EN2⟩ | ⟨b1, c1, V1⟩
  · subst EN1
    subst EN2
    refine rSlNil rfl ?_
    refine cT rfl ?_
    refine Done.mk ?_
    replace H := H.sl0 (en := enFn) (s := 3) (50) (fun _ => rfl)
    exact H
  subst V1
  refine rSlNil rfl ?_
  refine cF rfl ?_
  refine rBuildSliceS H rfl rfl rfl rfl ?_
  clear H
  intro p1 w1 H
  refine H.ptSl (n := 0) (en := enFn) (s := 3) 0 rfl [] rfl rfl (fun _ => rfl) rfl ?_
  clear H
  intro H
  refine rApR 56 H 0 rfl (H.rd hx) (by assumption) rfl rfl rfl (by (simp only [List.length_append, List.length_set, List.length_cons, List.length_nil]; omega)) (by (simp only [List.length_append, List.length_set, List.length_cons, List.length_nil]; omega)) ?_
  intro v1
  clear H
  intro w2 H
  clear w1
  refine Done.mk ?_
  exact H
theorem clnDt (H : Sat g w l) (v : Value) (xs : List (Int × List UInt8)) (hx : FSl g enDt okDt 2 v xs) (hl : xs.length ≤ 1000) : Fc Tryz.prog 41 #[v] w (fun u w' => Sat g w' (Sl 113 2 enDt u xs :: l)) := by
  refine Fc.of Tryz.func41 rfl (by kernel_rfl) ?_
  rcases FSl.nilOr hx with ⟨EN1, EN2⟩ | ⟨b1, c1, V1⟩
  · subst EN1
    subst EN2
    refine rSlNil rfl ?_
    refine cT rfl ?_
    refine Done.mk ?_
    replace H := H.sl0 (en := enDt) (s := 2) (113) (fun _ => rfl)
    exact H
  subst V1
  refine rSlNil rfl ?_
  refine cF rfl ?_
  refine rBuildSliceS H rfl rfl rfl rfl ?_
  clear H
  intro p1 w1 H
  refine H.ptSl (n := 0) (en := enDt) (s := 2) 0 rfl [] rfl rfl (fun _ => rfl) rfl ?_
  clear H
  intro H
  refine rApR 24 H 0 rfl (H.rd hx) (fun y _ => rfl) rfl rfl rfl (by (simp only [List.length_append, List.length_set, List.length_cons, List.length_nil]; omega)) (by (simp only [List.length_append, List.length_set, List.length_cons, List.length_nil]; omega)) ?_
  intro v1
  clear H
  intro w2 H
  clear w1
  refine Done.mk ?_
  exact H
theorem clnEl (H : Sat g w l) (v : Value) (xs : List ElV) (hx : FSl g enEl (okEl g) 2 v xs) (hl : xs.length ≤ 1000) : Fc Tryz.prog 40 #[v] w (fun u w' => Sat g w' (Sl 110 2 enEl u xs :: l)) := by
  have ho1 : ∀ y ∈ xs, ((enEl y).all (·.oneCell')) = true := fun y h => by have o := FSl.all hx y h; simp only [enEl, List.all_cons, List.all_nil, FSl.one o.fs]; rfl
  refine Fc.of Tryz.func40 rfl (by kernel_rfl) ?_
  rcases FSl.nilOr hx with ⟨EN1, EN2⟩ | ⟨b1, c1, V1⟩
  · subst EN1
    subst EN2
    refine rSlNil rfl ?_
    refine cT rfl ?_
    refine Done.mk ?_
    replace H := H.sl0 (en := enEl) (s := 2) (110) (fun _ => rfl)
    exact H
  subst V1
  refine rSlNil rfl ?_
  refine cF rfl ?_
  refine rBuildSliceS H rfl rfl rfl rfl ?_
  clear H
  intro p1 w1 H
  refine H.ptSl (n := 0) (en := enEl) (s := 2) 0 rfl [] rfl rfl (fun _ => rfl) rfl ?_
  clear H
  intro H
  refine rApR 32 H 0 rfl (H.rd hx) (by assumption) rfl rfl rfl (by (simp only [List.length_append, List.length_set, List.length_cons, List.length_nil]; omega)) (by (simp only [List.length_append, List.length_set, List.length_cons, List.length_nil]; omega)) ?_
  intro v1
  clear H
  intro w2 H
  clear w1
  refine Done.mk ?_
  exact H
end
end Go.Proofs.YtndhikahjmgamaaGreatDoor.Fold
/- Package bin: Check. -/
set_option maxRecDepth 100000
set_option maxHeartbeats 4000000
set_option linter.unusedVariables false
set_option linter.unusedSimpArgs false
namespace Go.Proofs.YtndhikahjmgamaaGreatDoor.Bin
open Go Go.Proofs.YtndhikahjmgamaaGreatDoor.Eng Go.RowKit
open Ins Nest Leb
section
variable {g : Glob} {w : World} {l : List As} {pc q : Nat} {b : Int}
theorem isKind (k : Int) (w : World) : Fc Tryz.prog 125 #[.int .u8 k] w (fun v w' => (∃ r, v = .bool r ∧ (r = true ↔ k = 127 ∨ k = 126)) ∧ Sat (froz w) w' []) := by
  refine Fc.of Tryz.func125 rfl (by kernel_rfl) ?_
  have H := Sat.start w
  refine br (fun c1 => ?_) (fun c1 => ?_)
  · replace c1 := vEq_t (c1)
    refine Done.mk ?_
    refine ⟨?_, ?_⟩
    · (simp; omega)
    exact H
  replace c1 := vEq_f (c1)
  refine Done.mk ?_
  refine ⟨?_, ?_⟩
  · (simp [vEq_iff]; omega)
  exact H
theorem isIndex (n : Int) (w : World) : Fc Tryz.prog 124 #[.int .i64 n] w (fun v w' => (∃ r, v = .bool r ∧ (r = true ↔ 0 ≤ n ∧ n ≤ 4294967295)) ∧ Sat (froz w) w' []) := by
  refine Fc.of Tryz.func124 rfl (by kernel_rfl) ?_
  have H := Sat.start w
  refine br (fun c1 => ?_) (fun c1 => ?_)
  · replace c1 := vLe_t (c1)
    refine Done.mk ?_
    refine ⟨?_, ?_⟩
    · (simp [vLe_iff]; omega)
    exact H
  replace c1 := vLe_f (c1)
  refine Done.mk ?_
  refine ⟨?_, ?_⟩
  · (simp; omega)
  exact H
theorem isPlace (n : Int) (hn : I64 n) (w : World) : Fc Tryz.prog 127 #[.int .i64 n] w (fun v w' => (∃ r, v = .bool r ∧ (r = true ↔ -2147483648 ≤ n ∧ n ≤ 2147483647)) ∧ Sat (froz w) w' []) := by
  refine Fc.of Tryz.func127 rfl (by kernel_rfl) ?_
  have H := Sat.start w
  refine rConvInt rfl rfl ?_
  refine rConvInt rfl rfl ?_
  refine Done.mk ?_
  refine ⟨?_, ?_⟩
  · refine ⟨vEq n (vWrap IntKind.i64 (vWrap IntKind.i32 n)), ?_⟩
    refine ⟨?_, ?_⟩
    · rfl
    exact fits32 hn
  exact H
def ndE (r : Bool) (e : Int) : Int := if r = true then 0 else e
theorem nd1 {r : Bool} {e : Int} (h : b ≠ 0) : FE b (ndE r e) b := (fst_ne _ h).symm
theorem nd2 {r : Bool} {e : Int} (h : b = 0) (hr : r = true) : FE b (ndE r e) b := by subst h; subst hr; rfl
theorem nd3 {r : Bool} {e : Int} (h : b = 0) (hr : r = false) : FE b (ndE r e) e := by subst h; subst hr; rfl
theorem need (H : Sat g w (Pt pc [.int .i64 b] 154 :: l)) (r : Bool) (e : Int) : Fc Tryz.prog 85 #[.pointer (some ⟨pc, 0, none⟩), .bool r, .int .i64 e] w (fun _ w' => ∃ c, FE b (ndE r e) c ∧ Sat g w' (Pt pc [.int .i64 c] 154 :: l)) := by
  refine Fc.of Tryz.func85 rfl (by kernel_rfl) ?_
  refine rFieldAt rfl ?_
  refine rLd (H.at 0 rfl) 0 rfl rfl rfl ?_
  refine br (fun c1 => ?_) (fun c1 => ?_)
  · replace c1 := vEq_t (c1)
    refine cI (fun c2 => ?_) (fun c2 => ?_)
    · replace c2 := not_t (c2)
      refine rFieldAt rfl ?_
      refine rStS H 0 rfl rfl rfl rfl ?_
      clear H
      intro w1 H
      refine Done.mk ?_
      refine ⟨e, ?_⟩
      refine ⟨?_, ?_⟩
      · exact nd3 (by omega) (by assumption)
      exact H
    replace c2 := not_f (c2)
    refine Done.mk ?_
    refine ⟨b, ?_⟩
    refine ⟨?_, ?_⟩
    · exact nd2 (by omega) (by assumption)
    exact H
  replace c1 := vEq_f (c1)
  refine cF rfl ?_
  refine Done.mk ?_
  refine ⟨b, ?_⟩
  refine ⟨?_, ?_⟩
  · exact nd1 (by omega)
  exact H
theorem fe0 {e : Int} (h : b = 0) : FE b e e := by subst h; exact (fst_0 _).symm
theorem says (H : Sat g w (Pt pc [.int .i64 b] 154 :: l)) (e : Int) : Fc Tryz.prog 123 #[.pointer (some ⟨pc, 0, none⟩), .int .i64 e] w (fun _ w' => ∃ c, FE b e c ∧ Sat g w' (Pt pc [.int .i64 c] 154 :: l)) := by
  refine Fc.of Tryz.func123 rfl (by kernel_rfl) ?_
  refine rFieldAt rfl ?_
  refine rLd (H.at 0 rfl) 0 rfl rfl rfl ?_
  refine cI (fun c1 => ?_) (fun c1 => ?_)
  · replace c1 := vEq_t (c1)
    refine rFieldAt rfl ?_
    refine rStS H 0 rfl rfl rfl rfl ?_
    clear H
    intro w1 H
    refine Done.mk ?_
    refine ⟨e, ?_⟩
    refine ⟨?_, ?_⟩
    · exact fe0 (by assumption)
    exact H
  replace c1 := vEq_f (c1)
  refine Done.mk ?_
  refine ⟨b, ?_⟩
  refine ⟨?_, ?_⟩
  · exact (fst_ne _ (by omega)).symm
  exact H
theorem ndIff {r : Bool} {p : Prop} [Decidable p] {e c : Int} (hr : r = true ↔ p) (h : FE b (ndE r e) c) : FE b (if p then 0 else e) c := by
  unfold FE ndE at *; rw [h]
  by_cases hp : p
  · rw [if_pos (hr.2 hp), if_pos hp]
  · rw [if_neg fun k => hp (hr.1 k), if_neg hp]

theorem kind (H : Sat g w (Pt pc [.int .i64 b] 154 :: l)) (k : Int) : Fc Tryz.prog 88 #[.pointer (some ⟨pc, 0, none⟩), .int .u8 k] w (fun _ w' => ∃ c, FE b (kindE k) c ∧ Sat g w' (Pt pc [.int .i64 c] 154 :: l)) := by
  refine Fc.of Tryz.func88 rfl (by kernel_rfl) ?_
  refine CallP.mk (Fc.imp (Go.Proofs.YtndhikahjmgamaaGreatDoor.Bin.isKind _ _) ?_)
  rintro _ w1 ⟨⟨r1, ⟨rfl, h1⟩⟩, H'⟩
  refine H.mergeK H' ?_
  clear H H'
  intro H
  refine CallP.mk (Fc.imp (Go.Proofs.YtndhikahjmgamaaGreatDoor.Bin.need H _ _) ?_)
  clear H
  rintro v' w2 ⟨c1, ⟨h2, H⟩⟩
  refine Done.mk ?_
  refine ⟨c1, ?_⟩
  refine ⟨?_, ?_⟩
  · exact ndIff (by assumption) (by assumption)
  exact H
theorem index (H : Sat g w (Pt pc [.int .i64 b] 154 :: l)) (n : Int) : Fc Tryz.prog 82 #[.pointer (some ⟨pc, 0, none⟩), .int .i64 n] w (fun _ w' => ∃ c, FE b (indexE n) c ∧ Sat g w' (Pt pc [.int .i64 c] 154 :: l)) := by
  refine Fc.of Tryz.func82 rfl (by kernel_rfl) ?_
  refine CallP.mk (Fc.imp (Go.Proofs.YtndhikahjmgamaaGreatDoor.Bin.isIndex _ _) ?_)
  rintro _ w1 ⟨⟨r1, ⟨rfl, h1⟩⟩, H'⟩
  refine H.mergeK H' ?_
  clear H H'
  intro H
  refine CallP.mk (Fc.imp (Go.Proofs.YtndhikahjmgamaaGreatDoor.Bin.need H _ _) ?_)
  clear H
  rintro v' w2 ⟨c1, ⟨h2, H⟩⟩
  refine Done.mk ?_
  refine ⟨c1, ?_⟩
  refine ⟨?_, ?_⟩
  · exact ndIff (by assumption) (by assumption)
  exact H
theorem place (H : Sat g w (Pt pc [.int .i64 b] 154 :: l)) (n : Int) (hn : I64 n) : Fc Tryz.prog 95 #[.pointer (some ⟨pc, 0, none⟩), .int .i64 n] w (fun _ w' => ∃ c, FE b (placeE n) c ∧ Sat g w' (Pt pc [.int .i64 c] 154 :: l)) := by
  refine Fc.of Tryz.func95 rfl (by kernel_rfl) ?_
  refine CallP.mk (Fc.imp (Go.Proofs.YtndhikahjmgamaaGreatDoor.Bin.isPlace _ ?_ _) ?_)
  · assumption
  rintro _ w1 ⟨⟨r1, ⟨rfl, h1⟩⟩, H'⟩
  refine H.mergeK H' ?_
  clear H H'
  intro H
  refine CallP.mk (Fc.imp (Go.Proofs.YtndhikahjmgamaaGreatDoor.Bin.need H _ _) ?_)
  clear H
  rintro v' w2 ⟨c1, ⟨h2, H⟩⟩
  refine Done.mk ?_
  refine ⟨c1, ?_⟩
  refine ⟨?_, ?_⟩
  · exact ndIff (by assumption) (by assumption)
  exact H
theorem named (H : Sat g w (Pt pc [.int .i64 b] 154 :: l)) (hT : U8F g) (s : List UInt8) (hs : s.length ≤ 9223372036854775807) : Fc Tryz.prog 81 #[.pointer (some ⟨pc, 0, none⟩), .string (bs s)] w (fun _ w' => ∃ c, FE b (nameE s) c ∧ Sat g w' (Pt pc [.int .i64 c] 154 :: l)) := by
  refine Fc.of Tryz.func81 rfl (by kernel_rfl) ?_
  refine CallP.mk (Fc.imp (Go.Proofs.YtndhikahjmgamaaGreatDoor.Leb.name H ?_ _ ?_) ?_)
  · assumption
  · assumption
  clear H
  rintro _ w1 ⟨t1, ⟨e1, ⟨rfl, ⟨h1, ⟨h2, ⟨h3, H⟩⟩⟩⟩⟩⟩
  refine CallP.mk (Fc.imp (Go.Proofs.YtndhikahjmgamaaGreatDoor.Bin.says H _) ?_)
  clear H
  rintro v' w2 ⟨c1, ⟨h4, H⟩⟩
  refine Done.mk ?_
  refine ⟨c1, ?_⟩
  refine ⟨?_, ?_⟩
  · exact h1 ▸ h4
  exact H
theorem nd_le {a m : Int} : ndE (vLe a m) 2 = (if a ≤ m then 0 else 2) := by
  unfold ndE
  by_cases h : a ≤ m
  · rw [if_pos (by rw [vLe_iff]; simpa using h), if_pos h]
  · rw [if_neg (by rw [vLe_iff]; simpa using h), if_neg h]
theorem gl1 {x : Int × Bool × Int} {c d : Int} (h1 : FE b (kindE x.1) c) (h : x.1 ≠ 127) (h2 : FE c (ndE true 1) d) : FE b (gloE x) d := by
  refine FE.two h1 ?_
  have e : startE x.1 x.2.2 = 0 := if_pos (.inl h)
  rw [e]; exact h2
theorem gl2 {x : Int × Bool × Int} {c d : Int} (hx : I64 x.2.2) (h1 : FE b (kindE x.1) c) (h : x.1 = 127) (h2 : FE c (ndE (vEq x.2.2 (vWrap .i64 (vWrap .i32 x.2.2))) 1) d) : FE b (gloE x) d := by
  refine FE.two h1 ?_
  have e : startE x.1 x.2.2 = ndE (vEq x.2.2 (vWrap .i64 (vWrap .i32 x.2.2))) 1 := by
    unfold startE ndE
    by_cases hh : -2147483648 ≤ x.2.2 ∧ x.2.2 ≤ 2147483647
    · rw [if_pos (.inr hh), if_pos ((fits32 hx).2 hh)]
    · rw [if_neg (fun k => k.elim (fun k => k h) hh), if_neg (fun k => hh ((fits32 hx).1 k))]
  rw [e]; exact h2
theorem dt1 {x : Int × List UInt8} {c d : Int} (h1 : FE b (placeE x.1) c) (h2 : FE c (ndE (vLe x.2.length 64) 2) d) : FE b (datE x) d := by
  refine FE.two h1 ?_
  rw [nd_le] at h2; exact h2
theorem ex0 {α : Type} {f : α → Int} {m : Int} {xs : List α} {c : Int} (h : FE b (ndE (vLe xs.length m) 2) c) : fst c (allE f (xs.drop 0)) = fst b (eachE m f xs) := by
  unfold FE at h; subst h
  have : ndE (vLe xs.length m) 2 = manyE xs.length m := by
    unfold ndE manyE
    by_cases h : (xs.length : Int) ≤ m
    · rw [if_pos (by rw [vLe_iff]; simpa using h), if_pos h]
    · rw [if_neg (by rw [vLe_iff]; simpa using h), if_neg h]
  rw [this, fst_assoc, List.drop_zero]; rfl
theorem ex1 {α : Type} {f : α → Int} {m : Int} {xs : List α} {c : Int} {i : Nat} (hi : xs.length ≤ i) (h : fst c (allE f (xs.drop i)) = fst b (eachE m f xs)) : FE b (eachE m f xs) c := by
  rw [List.drop_of_length_le hi] at h
  exact (fst_z c).symm.trans h
theorem ex2 {α : Type} {f : α → Int} {m : Int} {xs : List α} {c : Int} {i : Nat} (hc : c ≠ 0) (h : fst c (allE f (xs.drop i)) = fst b (eachE m f xs)) : FE b (eachE m f xs) c := by
  rw [fst_ne _ hc] at h; exact h
theorem ex3 {α : Type} {f : α → Int} {m : Int} {xs : List α} {c d : Int} {i : Nat} {a : α} (hx : xs[i]? = some a) (hd : FE c (f a) d) (h : fst c (allE f (xs.drop i)) = fst b (eachE m f xs)) : fst d (allE f (xs.drop (i + 1))) = fst b (eachE m f xs) := by
  have hh := List.getElem?_eq_some_iff.1 hx
  rw [List.drop_eq_getElem_cons hh.1, hh.2, allE] at h
  unfold FE at hd; rw [hd, fst_assoc]; exact h

theorem eachK (H : Sat g w (Pt pc [.int .i64 b] 154 :: l)) (m : Int) (v : Value) (xs : List Int) (hx : FSl g enK U8 1 v xs) : Fc Tryz.prog 121 #[.pointer (some ⟨pc, 0, none⟩), v, .int .i64 m, .func (.func 88) #[.pointer (some ⟨pc, 0, none⟩)] #[]] w (fun _ w' => ∃ c, FE b (eachE m kindE xs) c ∧ Sat g w' (Pt pc [.int .i64 c] 154 :: l)) := by
  refine Fc.of Tryz.func121 rfl (by kernel_rfl) ?_
  have hbd := SlR.len hx
  refine rLenF hx rfl ?_
  refine CallP.mk (Fc.imp (Go.Proofs.YtndhikahjmgamaaGreatDoor.Bin.need H _ _) ?_)
  clear H
  rintro v' w1 ⟨c1, ⟨h1, H⟩⟩
  refine rLenF hx rfl ?_
  refine LoopP.rule (α := Nat × Int) (0, c1) (fun x_ => [(18, .int .i64 x_.1)]) (fun x_ w_ => (x_.1 ≤ xs.length) ∧ (fst x_.2 (allE kindE (xs.drop x_.1)) = fst b (eachE m kindE xs)) ∧ Sat g w_ ((Pt pc [.int .i64 x_.2] 154 :: l))) (fun x_ => xs.length - x_.1) ?_ ?_ ?_
  · repeat first | exact mt_nil | refine mt_cons rfl ?_ | refine mt_i rfl (by first | omega | (simp only; omega) | (simp; omega) | (simp; done)) ?_
  · try simp only
    refine ⟨?_, ?_⟩
    · omega
    refine ⟨?_, ?_⟩
    · exact ex0 (by assumption)
    exact H
  clear H
  rintro ⟨i, d⟩ f_ w_ ⟨hi, hb, H⟩
  try simp only at hi hb H ⊢
  refine cI (fun c2 => ?_) (fun c2 => ?_)
  · replace c2 := vLt_t (c2)
    refine bk ?_
    obtain ⟨x1, hx1⟩ : ∃ x, (xs)[(i)]? = some x := ⟨_, List.getElem?_eq_getElem (by omega)⟩
    obtain ⟨b1, o1, E1, F1, hok1⟩ := FSl.elt hx hx1
    refine rIxE E1 rfl rfl rfl ?_
    refine rLd (H.fat F1) 0 rfl rfl rfl ?_
    refine rFieldAt rfl ?_
    refine rLd (H.at 0 rfl) 0 rfl rfl rfl ?_
    refine cI (fun c3 => ?_) (fun c3 => ?_)
    · replace c3 := vNe_t (c3)
      refine Done.mk ?_
      refine ⟨d, ?_⟩
      refine ⟨?_, ?_⟩
      · exact ex2 (by omega) hb
      exact H
    replace c3 := vNe_f (c3)
    refine CallP.mk (Fc.imp (Go.Proofs.YtndhikahjmgamaaGreatDoor.Bin.kind H _) ?_)
    clear H
    rintro va' w2 ⟨c4, ⟨h2, H⟩⟩
    refine eqI64 (by omega) ?_
    refine Nxt.mk ((i + 1, c4)) (mt_i rfl (by first | omega | (simp only; omega) | (simp; omega)) (mt_nil)) ?_ ?_
    · refine ⟨?_, ?_⟩
      · omega
      refine ⟨?_, ?_⟩
      · exact ex3 hx1 (by assumption) hb
      exact H
    omega
  replace c2 := vLt_f (c2)
  refine Done.mk ?_
  refine ⟨d, ?_⟩
  refine ⟨?_, ?_⟩
  · exact ex1 (by omega) hb
  exact H

theorem eachN (H : Sat g w (Pt pc [.int .i64 b] 154 :: l)) (m : Int) (v : Value) (xs : List Int) (hx : FSl g enI okI 1 v xs) : Fc Tryz.prog 126 #[.pointer (some ⟨pc, 0, none⟩), v, .int .i64 m, .func (.func 82) #[.pointer (some ⟨pc, 0, none⟩)] #[]] w (fun _ w' => ∃ c, FE b (eachE m indexE xs) c ∧ Sat g w' (Pt pc [.int .i64 c] 154 :: l)) := by
  refine Fc.of Tryz.func126 rfl (by kernel_rfl) ?_
  have hbd := SlR.len hx
  refine rLenF hx rfl ?_
  refine CallP.mk (Fc.imp (Go.Proofs.YtndhikahjmgamaaGreatDoor.Bin.need H _ _) ?_)
  clear H
  rintro v' w1 ⟨c1, ⟨h1, H⟩⟩
  refine rLenF hx rfl ?_
  refine LoopP.rule (α := Nat × Int) (0, c1) (fun x_ => [(18, .int .i64 x_.1)]) (fun x_ w_ => (x_.1 ≤ xs.length) ∧ (fst x_.2 (allE indexE (xs.drop x_.1)) = fst b (eachE m indexE xs)) ∧ Sat g w_ ((Pt pc [.int .i64 x_.2] 154 :: l))) (fun x_ => xs.length - x_.1) ?_ ?_ ?_
  · repeat first | exact mt_nil | refine mt_cons rfl ?_ | refine mt_i rfl (by first | omega | (simp only; omega) | (simp; omega) | (simp; done)) ?_
  · try simp only
    refine ⟨?_, ?_⟩
    · omega
    refine ⟨?_, ?_⟩
    · exact ex0 (by assumption)
    exact H
  clear H
  rintro ⟨i, d⟩ f_ w_ ⟨hi, hb, H⟩
  try simp only at hi hb H ⊢
  refine cI (fun c2 => ?_) (fun c2 => ?_)
  · replace c2 := vLt_t (c2)
    refine bk ?_
    obtain ⟨x1, hx1⟩ : ∃ x, (xs)[(i)]? = some x := ⟨_, List.getElem?_eq_getElem (by omega)⟩
    obtain ⟨b1, o1, E1, F1, hok1⟩ := FSl.elt hx hx1
    refine rIxE E1 rfl rfl rfl ?_
    refine rLd (H.fat F1) 0 rfl rfl rfl ?_
    refine rFieldAt rfl ?_
    refine rLd (H.at 0 rfl) 0 rfl rfl rfl ?_
    refine cI (fun c3 => ?_) (fun c3 => ?_)
    · replace c3 := vNe_t (c3)
      refine Done.mk ?_
      refine ⟨d, ?_⟩
      refine ⟨?_, ?_⟩
      · exact ex2 (by omega) hb
      exact H
    replace c3 := vNe_f (c3)
    refine CallP.mk (Fc.imp (Go.Proofs.YtndhikahjmgamaaGreatDoor.Bin.index H _) ?_)
    clear H
    rintro va' w2 ⟨c4, ⟨h2, H⟩⟩
    refine eqI64 (by omega) ?_
    refine Nxt.mk ((i + 1, c4)) (mt_i rfl (by first | omega | (simp only; omega) | (simp; omega)) (mt_nil)) ?_ ?_
    · refine ⟨?_, ?_⟩
      · omega
      refine ⟨?_, ?_⟩
      · exact ex3 hx1 (by assumption) hb
      exact H
    omega
  replace c2 := vLt_f (c2)
  refine Done.mk ?_
  refine ⟨d, ?_⟩
  refine ⟨?_, ?_⟩
  · exact ex1 (by omega) hb
  exact H

theorem sig (H : Sat g w (Pt pc [.int .i64 b] 154 :: l)) (x : SigV) (hx : okSg g x) : Fc Tryz.prog 78 #[.pointer (some ⟨pc, 0, none⟩), .agg #[x.vi, x.vo]] w (fun _ w' => ∃ c, FE b (sigE x.d) c ∧ Sat g w' (Pt pc [.int .i64 c] 154 :: l)) := by
  refine Fc.of Tryz.func78 rfl (by kernel_rfl) ?_
  have hx_inn := hx.inn
  have hx_out := hx.out
  refine rBoxS H ?_
  clear H
  intro p1 w1 H
  refine rFieldAt rfl ?_
  refine rLd (H.at 0 rfl) 0 rfl rfl rfl ?_
  refine H.fronts [1] ?_
  clear H
  intro H
  refine CallP.mk (Fc.imp (Go.Proofs.YtndhikahjmgamaaGreatDoor.Bin.eachK H _ _ _ hx_inn) ?_)
  clear H
  rintro v' w2 ⟨c1, ⟨h1, H⟩⟩
  refine rFieldAt rfl ?_
  refine rLd (H.at 1 rfl) 1 rfl rfl rfl ?_
  refine CallP.mk (Fc.imp (Go.Proofs.YtndhikahjmgamaaGreatDoor.Bin.eachK H _ _ _ hx_out) ?_)
  clear H
  rintro va' w3 ⟨c2, ⟨h2, H⟩⟩
  refine Done.mk ?_
  refine ⟨c2, ?_⟩
  refine ⟨?_, ?_⟩
  · exact FE.two (by assumption) (by assumption)
  refine H.drop 1 ?_
  clear H
  intro H
  exact H

theorem eachSg (H : Sat g w (Pt pc [.int .i64 b] 154 :: l)) (m : Int) (v : Value) (xs : List SigV) (hx : FSl g enSg (okSg g) 2 v xs) : Fc Tryz.prog 77 #[.pointer (some ⟨pc, 0, none⟩), v, .int .i64 m, .func (.func 78) #[.pointer (some ⟨pc, 0, none⟩)] #[]] w (fun _ w' => ∃ c, FE b (eachE m (fun x : SigV => sigE x.d) xs) c ∧ Sat g w' (Pt pc [.int .i64 c] 154 :: l)) := by
  refine Fc.of Tryz.func77 rfl (by kernel_rfl) ?_
  have hbd := SlR.len hx
  refine rLenF hx rfl ?_
  refine CallP.mk (Fc.imp (Go.Proofs.YtndhikahjmgamaaGreatDoor.Bin.need H _ _) ?_)
  clear H
  rintro v' w1 ⟨c1, ⟨h1, H⟩⟩
  refine rLenF hx rfl ?_
  refine LoopP.rule (α := Nat × Int) (0, c1) (fun x_ => [(18, .int .i64 x_.1)]) (fun x_ w_ => (x_.1 ≤ xs.length) ∧ (fst x_.2 (allE (fun x : SigV => sigE x.d) (xs.drop x_.1)) = fst b (eachE m (fun x : SigV => sigE x.d) xs)) ∧ Sat g w_ ((Pt pc [.int .i64 x_.2] 154 :: l))) (fun x_ => xs.length - x_.1) ?_ ?_ ?_
  · repeat first | exact mt_nil | refine mt_cons rfl ?_ | refine mt_i rfl (by first | omega | (simp only; omega) | (simp; omega) | (simp; done)) ?_
  · try simp only
    refine ⟨?_, ?_⟩
    · omega
    refine ⟨?_, ?_⟩
    · exact ex0 (by assumption)
    exact H
  clear H
  rintro ⟨i, d⟩ f_ w_ ⟨hi, hb, H⟩
  try simp only at hi hb H ⊢
  refine cI (fun c2 => ?_) (fun c2 => ?_)
  · replace c2 := vLt_t (c2)
    refine bk ?_
    obtain ⟨x1, hx1⟩ : ∃ x, (xs)[(i)]? = some x := ⟨_, List.getElem?_eq_getElem (by omega)⟩
    obtain ⟨b1, o1, E1, F1, hok1⟩ := FSl.elt hx hx1
    have hok1_inn := hok1.inn
    have hok1_out := hok1.out
    refine rIxE E1 rfl rfl rfl ?_
    refine rLdA (H.fat F1) 0 rfl rfl rfl ?_
    refine rAllocS H rfl ?_
    clear H
    intro p1 w2 H
    clear w_
    refine rStAS H 0 rfl rfl rfl (by simp only [List.all_cons, List.all_nil, FSl.one hok1_out, FSl.one hok1_inn, FSl.one hx]; rfl) ?_
    clear H
    intro w3 H
    clear w2
    refine rFieldAt rfl ?_
    refine rLd (H.at 1 rfl) 0 rfl rfl rfl ?_
    refine cI (fun c3 => ?_) (fun c3 => ?_)
    · replace c3 := vNe_t (c3)
      refine Done.mk ?_
      refine ⟨d, ?_⟩
      refine ⟨?_, ?_⟩
      · exact ex2 (by omega) hb
      refine H.fronts [1] ?_
      clear H
      intro H
      refine H.drop 1 ?_
      clear H
      intro H
      exact H
    replace c3 := vNe_f (c3)
    refine rLdA (H.at 0 rfl) 0 rfl rfl rfl ?_
    refine H.fronts [1] ?_
    clear H
    intro H
    refine CallP.mk (Fc.imp (Go.Proofs.YtndhikahjmgamaaGreatDoor.Bin.sig H _ ?_) ?_)
    · assumption
    clear H
    rintro va' w2 ⟨c4, ⟨h2, H⟩⟩
    refine eqI64 (by omega) ?_
    refine Nxt.mk ((i + 1, c4)) (mt_i rfl (by first | omega | (simp only; omega) | (simp; omega)) (mt_nil)) ?_ ?_
    · refine ⟨?_, ?_⟩
      · omega
      refine ⟨?_, ?_⟩
      · exact ex3 hx1 (by assumption) hb
      refine H.drop 1 ?_
      clear H
      intro H
      exact H
    omega
  replace c2 := vLt_f (c2)
  refine Done.mk ?_
  refine ⟨d, ?_⟩
  refine ⟨?_, ?_⟩
  · exact ex1 (by omega) hb
  exact H

theorem imp1 (H : Sat g w (Pt pc [.int .i64 b] 154 :: Pt q [.pointer (some ⟨pc, 0, none⟩)] 152 :: l)) (hT : U8F g) (x : List UInt8 × Int) (hx : okIm x) : Fc Tryz.prog 80 #[.agg #[.string (bs x.1), .int .i64 x.2], .pointer (some ⟨q, 0, none⟩)] w (fun _ w' => ∃ c, FE b (impE x) c ∧ Sat g w' (Pt pc [.int .i64 c] 154 :: Pt q [.pointer (some ⟨pc, 0, none⟩)] 152 :: l)) := by
  refine Fc.of Tryz.func80 rfl (by kernel_rfl) ?_
  have hx_name := hx.name
  have hx_ty := hx.ty
  refine rBoxS H ?_
  clear H
  intro p1 w1 H
  refine rLd (H.at 2 rfl) 0 rfl rfl rfl ?_
  refine rFieldAt rfl ?_
  refine rLd (H.at 0 rfl) 0 rfl rfl rfl ?_
  refine H.fronts [1] ?_
  clear H
  intro H
  refine CallP.mk (Fc.imp (Go.Proofs.YtndhikahjmgamaaGreatDoor.Bin.named H ?_ _ ?_) ?_)
  · assumption
  · assumption
  clear H
  rintro v' w2 ⟨c1, ⟨h1, H⟩⟩
  refine rLd (H.at 2 rfl) 0 rfl rfl rfl ?_
  refine rFieldAt rfl ?_
  refine rLd (H.at 1 rfl) 1 rfl rfl rfl ?_
  refine CallP.mk (Fc.imp (Go.Proofs.YtndhikahjmgamaaGreatDoor.Bin.index H _) ?_)
  clear H
  rintro va' w3 ⟨c2, ⟨h2, H⟩⟩
  refine Done.mk ?_
  refine ⟨c2, ?_⟩
  refine ⟨?_, ?_⟩
  · exact FE.two (by assumption) (by assumption)
  refine H.fronts [2, 1] ?_
  clear H
  intro H
  refine H.drop 2 ?_
  clear H
  intro H
  exact H

theorem eachIm (H : Sat g w (Pt pc [.int .i64 b] 154 :: Pt q [.pointer (some ⟨pc, 0, none⟩)] 152 :: l)) (hT : U8F g) (m : Int) (v : Value) (xs : List (List UInt8 × Int)) (hx : FSl g enIm okIm 2 v xs) : Fc Tryz.prog 79 #[.pointer (some ⟨pc, 0, none⟩), v, .int .i64 m, .func (.func 80) #[] #[.pointer (some ⟨q, 0, none⟩)]] w (fun _ w' => ∃ c, FE b (eachE m impE xs) c ∧ Sat g w' (Pt pc [.int .i64 c] 154 :: Pt q [.pointer (some ⟨pc, 0, none⟩)] 152 :: l)) := by
  refine Fc.of Tryz.func79 rfl (by kernel_rfl) ?_
  have hbd := SlR.len hx
  refine rLenF hx rfl ?_
  refine CallP.mk (Fc.imp (Go.Proofs.YtndhikahjmgamaaGreatDoor.Bin.need H _ _) ?_)
  clear H
  rintro v' w1 ⟨c1, ⟨h1, H⟩⟩
  refine rLenF hx rfl ?_
  refine LoopP.rule (α := Nat × Int) (0, c1) (fun x_ => [(18, .int .i64 x_.1)]) (fun x_ w_ => (x_.1 ≤ xs.length) ∧ (fst x_.2 (allE impE (xs.drop x_.1)) = fst b (eachE m impE xs)) ∧ Sat g w_ ((Pt pc [.int .i64 x_.2] 154 :: Pt q [.pointer (some ⟨pc, 0, none⟩)] 152 :: l))) (fun x_ => xs.length - x_.1) ?_ ?_ ?_
  · repeat first | exact mt_nil | refine mt_cons rfl ?_ | refine mt_i rfl (by first | omega | (simp only; omega) | (simp; omega) | (simp; done)) ?_
  · try simp only
    refine ⟨?_, ?_⟩
    · omega
    refine ⟨?_, ?_⟩
    · exact ex0 (by assumption)
    exact H
  clear H
  rintro ⟨i, d⟩ f_ w_ ⟨hi, hb, H⟩
  try simp only at hi hb H ⊢
  refine cI (fun c2 => ?_) (fun c2 => ?_)
  · replace c2 := vLt_t (c2)
    refine bk ?_
    obtain ⟨x1, hx1⟩ : ∃ x, (xs)[(i)]? = some x := ⟨_, List.getElem?_eq_getElem (by omega)⟩
    obtain ⟨b1, o1, E1, F1, hok1⟩ := FSl.elt hx hx1
    have hok1_name := hok1.name
    have hok1_ty := hok1.ty
    refine rIxE E1 rfl rfl rfl ?_
    refine rLdA (H.fat F1) 0 rfl rfl rfl ?_
    refine rAllocS H rfl ?_
    clear H
    intro p1 w2 H
    clear w_
    refine rStAS H 0 rfl rfl rfl rfl ?_
    clear H
    intro w3 H
    clear w2
    refine rFieldAt rfl ?_
    refine rLd (H.at 1 rfl) 0 rfl rfl rfl ?_
    refine cI (fun c3 => ?_) (fun c3 => ?_)
    · replace c3 := vNe_t (c3)
      refine Done.mk ?_
      refine ⟨d, ?_⟩
      refine ⟨?_, ?_⟩
      · exact ex2 (by omega) hb
      refine H.fronts [2, 2] ?_
      clear H
      intro H
      refine H.drop 2 ?_
      clear H
      intro H
      exact H
    replace c3 := vNe_f (c3)
    refine rLdA (H.at 0 rfl) 0 rfl rfl rfl ?_
    refine H.fronts [2, 2] ?_
    clear H
    intro H
    refine CallP.mk (Fc.imp (Go.Proofs.YtndhikahjmgamaaGreatDoor.Bin.imp1 H ?_ _ ?_) ?_)
    · assumption
    · assumption
    clear H
    rintro va' w2 ⟨c4, ⟨h2, H⟩⟩
    refine eqI64 (by omega) ?_
    refine Nxt.mk ((i + 1, c4)) (mt_i rfl (by first | omega | (simp only; omega) | (simp; omega)) (mt_nil)) ?_ ?_
    · refine ⟨?_, ?_⟩
      · omega
      refine ⟨?_, ?_⟩
      · exact ex3 hx1 (by assumption) hb
      refine H.drop 2 ?_
      clear H
      intro H
      exact H
    omega
  replace c2 := vLt_f (c2)
  refine Done.mk ?_
  refine ⟨d, ?_⟩
  refine ⟨?_, ?_⟩
  · exact ex1 (by omega) hb
  exact H

theorem fun1 {b c d : Int} {x : FunV} (h1 : FE b (indexE x.ty) c) (h2 : FE c (eachE 16 kindE x.loc) d) (h : d ≠ 0) : FE b (funE x.d) d := by
  unfold FE at *
  have : fst d (chkB x.d.body) = d := fst_ne _ h
  rw [← this, h2, h1, fst_assoc, fst_assoc]; rfl
theorem fun2 {b c d e : Int} {x : FunV} (h1 : FE b (indexE x.ty) c) (h2 : FE c (eachE 16 kindE x.loc) d) (h : d = 0) (he : e = chkB (x.body.map InsV.d)) : FE b (funE x.d) e := by
  unfold FE at *
  have : fst d (chkB x.d.body) = e := by rw [h, fst_0]; exact he.symm
  rw [← this, h2, h1, fst_assoc, fst_assoc]; rfl

theorem function (H : Sat g w (Pt pc [.int .i64 b] 154 :: l)) (x : FunV) (hx : okFn g x) : Fc Tryz.prog 84 #[.pointer (some ⟨pc, 0, none⟩), .agg #[.int .i64 x.ty, x.vl, x.vb]] w (fun _ w' => ∃ c, FE b (funE x.d) c ∧ Sat g w' (Pt pc [.int .i64 c] 154 :: l)) := by
  refine Fc.of Tryz.func84 rfl (by kernel_rfl) ?_
  have hx_ty := hx.ty
  have hx_loc := hx.loc
  have hx_body := hx.body
  refine rBoxS H ?_
  clear H
  intro p1 w1 H
  refine rFieldAt rfl ?_
  refine rLd (H.at 0 rfl) 0 rfl rfl rfl ?_
  refine H.fronts [1] ?_
  clear H
  intro H
  refine CallP.mk (Fc.imp (Go.Proofs.YtndhikahjmgamaaGreatDoor.Bin.index H _) ?_)
  clear H
  rintro v' w2 ⟨c1, ⟨h1, H⟩⟩
  refine rFieldAt rfl ?_
  refine rLd (H.at 1 rfl) 1 rfl rfl rfl ?_
  refine CallP.mk (Fc.imp (Go.Proofs.YtndhikahjmgamaaGreatDoor.Bin.eachK H _ _ _ hx_loc) ?_)
  clear H
  rintro va' w3 ⟨c2, ⟨h2, H⟩⟩
  refine rFieldAt rfl ?_
  refine rLd (H.at 0 rfl) 0 rfl rfl rfl ?_
  refine cI (fun c3 => ?_) (fun c3 => ?_)
  · replace c3 := vEq_t (c3)
    refine rFieldAt rfl ?_
    refine rLd (H.at 1 rfl) 2 rfl rfl rfl ?_
    refine CallP.mk (Fc.imp (Go.Proofs.YtndhikahjmgamaaGreatDoor.Nest.check H _ _ hx_body) ?_)
    clear H
    rintro _ w4 ⟨⟨e1, ⟨rfl, h3⟩⟩, H⟩
    refine rFieldAt rfl ?_
    refine rStS H 0 rfl rfl rfl rfl ?_
    clear H
    intro w5 H
    clear w4
    refine Done.mk ?_
    refine ⟨e1, ?_⟩
    refine ⟨?_, ?_⟩
    · exact fun2 (by assumption) (by assumption) (by omega) (by assumption)
    refine H.drop 1 ?_
    clear H
    intro H
    exact H
  replace c3 := vEq_f (c3)
  refine Done.mk ?_
  refine ⟨c2, ?_⟩
  refine ⟨?_, ?_⟩
  · exact fun1 (by assumption) (by assumption) (by omega)
  refine H.drop 1 ?_
  clear H
  intro H
  exact H

theorem eachFn (H : Sat g w (Pt pc [.int .i64 b] 154 :: l)) (m : Int) (v : Value) (xs : List FunV) (hx : FSl g enFn (okFn g) 3 v xs) : Fc Tryz.prog 83 #[.pointer (some ⟨pc, 0, none⟩), v, .int .i64 m, .func (.func 84) #[.pointer (some ⟨pc, 0, none⟩)] #[]] w (fun _ w' => ∃ c, FE b (eachE m (fun x : FunV => funE x.d) xs) c ∧ Sat g w' (Pt pc [.int .i64 c] 154 :: l)) := by
  refine Fc.of Tryz.func83 rfl (by kernel_rfl) ?_
  have hbd := SlR.len hx
  refine rLenF hx rfl ?_
  refine CallP.mk (Fc.imp (Go.Proofs.YtndhikahjmgamaaGreatDoor.Bin.need H _ _) ?_)
  clear H
  rintro v' w1 ⟨c1, ⟨h1, H⟩⟩
  refine rLenF hx rfl ?_
  refine LoopP.rule (α := Nat × Int) (0, c1) (fun x_ => [(18, .int .i64 x_.1)]) (fun x_ w_ => (x_.1 ≤ xs.length) ∧ (fst x_.2 (allE (fun x : FunV => funE x.d) (xs.drop x_.1)) = fst b (eachE m (fun x : FunV => funE x.d) xs)) ∧ Sat g w_ ((Pt pc [.int .i64 x_.2] 154 :: l))) (fun x_ => xs.length - x_.1) ?_ ?_ ?_
  · repeat first | exact mt_nil | refine mt_cons rfl ?_ | refine mt_i rfl (by first | omega | (simp only; omega) | (simp; omega) | (simp; done)) ?_
  · try simp only
    refine ⟨?_, ?_⟩
    · omega
    refine ⟨?_, ?_⟩
    · exact ex0 (by assumption)
    exact H
  clear H
  rintro ⟨i, d⟩ f_ w_ ⟨hi, hb, H⟩
  try simp only at hi hb H ⊢
  refine cI (fun c2 => ?_) (fun c2 => ?_)
  · replace c2 := vLt_t (c2)
    refine bk ?_
    obtain ⟨x1, hx1⟩ : ∃ x, (xs)[(i)]? = some x := ⟨_, List.getElem?_eq_getElem (by omega)⟩
    obtain ⟨b1, o1, E1, F1, hok1⟩ := FSl.elt hx hx1
    have hok1_ty := hok1.ty
    have hok1_loc := hok1.loc
    have hok1_body := hok1.body
    refine rIxE E1 rfl rfl rfl ?_
    refine rLdA (H.fat F1) 0 rfl rfl rfl ?_
    refine rAllocS H rfl ?_
    clear H
    intro p1 w2 H
    clear w_
    refine rStAS H 0 rfl rfl rfl (by simp only [List.all_cons, List.all_nil, FSl.one hok1_body, FSl.one hok1_loc, FSl.one hx]; rfl) ?_
    clear H
    intro w3 H
    clear w2
    refine rFieldAt rfl ?_
    refine rLd (H.at 1 rfl) 0 rfl rfl rfl ?_
    refine cI (fun c3 => ?_) (fun c3 => ?_)
    · replace c3 := vNe_t (c3)
      refine Done.mk ?_
      refine ⟨d, ?_⟩
      refine ⟨?_, ?_⟩
      · exact ex2 (by omega) hb
      refine H.fronts [1] ?_
      clear H
      intro H
      refine H.drop 1 ?_
      clear H
      intro H
      exact H
    replace c3 := vNe_f (c3)
    refine rLdA (H.at 0 rfl) 0 rfl rfl rfl ?_
    refine H.fronts [1] ?_
    clear H
    intro H
    refine CallP.mk (Fc.imp (Go.Proofs.YtndhikahjmgamaaGreatDoor.Bin.function H _ ?_) ?_)
    · assumption
    clear H
    rintro va' w2 ⟨c4, ⟨h2, H⟩⟩
    refine eqI64 (by omega) ?_
    refine Nxt.mk ((i + 1, c4)) (mt_i rfl (by first | omega | (simp only; omega) | (simp; omega)) (mt_nil)) ?_ ?_
    · refine ⟨?_, ?_⟩
      · omega
      refine ⟨?_, ?_⟩
      · exact ex3 hx1 (by assumption) hb
      refine H.drop 1 ?_
      clear H
      intro H
      exact H
    omega
  replace c2 := vLt_f (c2)
  refine Done.mk ?_
  refine ⟨d, ?_⟩
  refine ⟨?_, ?_⟩
  · exact ex1 (by omega) hb
  exact H

theorem glo1 (H : Sat g w (Pt pc [.int .i64 b] 154 :: Pt q [.pointer (some ⟨pc, 0, none⟩)] 152 :: l)) (x : Int × Bool × Int) (hx : okGl x) : Fc Tryz.prog 87 #[.agg #[.int .u8 x.1, .bool x.2.1, .int .i64 x.2.2], .pointer (some ⟨q, 0, none⟩)] w (fun _ w' => ∃ c, FE b (gloE x) c ∧ Sat g w' (Pt pc [.int .i64 c] 154 :: Pt q [.pointer (some ⟨pc, 0, none⟩)] 152 :: l)) := by
  refine Fc.of Tryz.func87 rfl (by kernel_rfl) ?_
  have hx_kind := hx.kind
  have hx_start := hx.start
  refine rBoxS H ?_
  clear H
  intro p1 w1 H
  refine rLd (H.at 2 rfl) 0 rfl rfl rfl ?_
  refine rFieldAt rfl ?_
  refine rLd (H.at 0 rfl) 0 rfl rfl rfl ?_
  refine H.fronts [1] ?_
  clear H
  intro H
  refine CallP.mk (Fc.imp (Go.Proofs.YtndhikahjmgamaaGreatDoor.Bin.kind H _) ?_)
  clear H
  rintro v' w2 ⟨c1, ⟨h1, H⟩⟩
  refine rLd (H.at 2 rfl) 0 rfl rfl rfl ?_
  refine rFieldAt rfl ?_
  refine rLd (H.at 1 rfl) 0 rfl rfl rfl ?_
  refine br (fun c2 => ?_) (fun c2 => ?_)
  · replace c2 := vNe_t (c2)
    refine CallP.mk (Fc.imp (Go.Proofs.YtndhikahjmgamaaGreatDoor.Bin.need H _ _) ?_)
    clear H
    rintro va' w3 ⟨c3, ⟨h2, H⟩⟩
    refine Done.mk ?_
    refine ⟨c3, ?_⟩
    refine ⟨?_, ?_⟩
    · exact gl1 h1 (by assumption) (by assumption)
    refine H.fronts [2, 1] ?_
    clear H
    intro H
    refine H.drop 2 ?_
    clear H
    intro H
    exact H
  replace c2 := vNe_f (c2)
  refine rFieldAt rfl ?_
  refine rLd (H.at 1 rfl) 2 rfl rfl rfl ?_
  refine rFieldAt rfl ?_
  refine rLd (H.at 1 rfl) 2 rfl rfl rfl ?_
  refine rConvInt rfl rfl ?_
  refine rConvInt rfl rfl ?_
  refine CallP.mk (Fc.imp (Go.Proofs.YtndhikahjmgamaaGreatDoor.Bin.need H _ _) ?_)
  clear H
  rintro va' w3 ⟨c3, ⟨h2, H⟩⟩
  refine Done.mk ?_
  refine ⟨c3, ?_⟩
  refine ⟨?_, ?_⟩
  · exact gl2 hx_start h1 (by omega) (by assumption)
  refine H.fronts [2, 1] ?_
  clear H
  intro H
  refine H.drop 2 ?_
  clear H
  intro H
  exact H

theorem eachGl (H : Sat g w (Pt pc [.int .i64 b] 154 :: Pt q [.pointer (some ⟨pc, 0, none⟩)] 152 :: l)) (m : Int) (v : Value) (xs : List (Int × Bool × Int)) (hx : FSl g enGl okGl 3 v xs) : Fc Tryz.prog 86 #[.pointer (some ⟨pc, 0, none⟩), v, .int .i64 m, .func (.func 87) #[] #[.pointer (some ⟨q, 0, none⟩)]] w (fun _ w' => ∃ c, FE b (eachE m gloE xs) c ∧ Sat g w' (Pt pc [.int .i64 c] 154 :: Pt q [.pointer (some ⟨pc, 0, none⟩)] 152 :: l)) := by
  refine Fc.of Tryz.func86 rfl (by kernel_rfl) ?_
  have hbd := SlR.len hx
  refine rLenF hx rfl ?_
  refine CallP.mk (Fc.imp (Go.Proofs.YtndhikahjmgamaaGreatDoor.Bin.need H _ _) ?_)
  clear H
  rintro v' w1 ⟨c1, ⟨h1, H⟩⟩
  refine rLenF hx rfl ?_
  refine LoopP.rule (α := Nat × Int) (0, c1) (fun x_ => [(18, .int .i64 x_.1)]) (fun x_ w_ => (x_.1 ≤ xs.length) ∧ (fst x_.2 (allE gloE (xs.drop x_.1)) = fst b (eachE m gloE xs)) ∧ Sat g w_ ((Pt pc [.int .i64 x_.2] 154 :: Pt q [.pointer (some ⟨pc, 0, none⟩)] 152 :: l))) (fun x_ => xs.length - x_.1) ?_ ?_ ?_
  · repeat first | exact mt_nil | refine mt_cons rfl ?_ | refine mt_i rfl (by first | omega | (simp only; omega) | (simp; omega) | (simp; done)) ?_
  · try simp only
    refine ⟨?_, ?_⟩
    · omega
    refine ⟨?_, ?_⟩
    · exact ex0 (by assumption)
    exact H
  clear H
  rintro ⟨i, d⟩ f_ w_ ⟨hi, hb, H⟩
  try simp only at hi hb H ⊢
  refine cI (fun c2 => ?_) (fun c2 => ?_)
  · replace c2 := vLt_t (c2)
    refine bk ?_
    obtain ⟨x1, hx1⟩ : ∃ x, (xs)[(i)]? = some x := ⟨_, List.getElem?_eq_getElem (by omega)⟩
    obtain ⟨b1, o1, E1, F1, hok1⟩ := FSl.elt hx hx1
    have hok1_kind := hok1.kind
    have hok1_start := hok1.start
    refine rIxE E1 rfl rfl rfl ?_
    refine rLdA (H.fat F1) 0 rfl rfl rfl ?_
    refine rAllocS H rfl ?_
    clear H
    intro p1 w2 H
    clear w_
    refine rStAS H 0 rfl rfl rfl rfl ?_
    clear H
    intro w3 H
    clear w2
    refine rFieldAt rfl ?_
    refine rLd (H.at 1 rfl) 0 rfl rfl rfl ?_
    refine cI (fun c3 => ?_) (fun c3 => ?_)
    · replace c3 := vNe_t (c3)
      refine Done.mk ?_
      refine ⟨d, ?_⟩
      refine ⟨?_, ?_⟩
      · exact ex2 (by omega) hb
      refine H.fronts [2, 2] ?_
      clear H
      intro H
      refine H.drop 2 ?_
      clear H
      intro H
      exact H
    replace c3 := vNe_f (c3)
    refine rLdA (H.at 0 rfl) 0 rfl rfl rfl ?_
    refine H.fronts [2, 2] ?_
    clear H
    intro H
    refine CallP.mk (Fc.imp (Go.Proofs.YtndhikahjmgamaaGreatDoor.Bin.glo1 H _ ?_) ?_)
    · assumption
    clear H
    rintro va' w2 ⟨c4, ⟨h2, H⟩⟩
    refine eqI64 (by omega) ?_
    refine Nxt.mk ((i + 1, c4)) (mt_i rfl (by first | omega | (simp only; omega) | (simp; omega)) (mt_nil)) ?_ ?_
    · refine ⟨?_, ?_⟩
      · omega
      refine ⟨?_, ?_⟩
      · exact ex3 hx1 (by assumption) hb
      refine H.drop 2 ?_
      clear H
      intro H
      exact H
    omega
  replace c2 := vLt_f (c2)
  refine Done.mk ?_
  refine ⟨d, ?_⟩
  refine ⟨?_, ?_⟩
  · exact ex1 (by omega) hb
  exact H

theorem shown (H : Sat g w (Pt pc [.int .i64 b] 154 :: l)) (hT : U8F g) (x : List UInt8 × Int) (hx : okIm x) : Fc Tryz.prog 90 #[.pointer (some ⟨pc, 0, none⟩), .agg #[.string (bs x.1), .int .i64 x.2]] w (fun _ w' => ∃ c, FE b (impE x) c ∧ Sat g w' (Pt pc [.int .i64 c] 154 :: l)) := by
  refine Fc.of Tryz.func90 rfl (by kernel_rfl) ?_
  have hx_name := hx.name
  have hx_ty := hx.ty
  refine rBoxS H ?_
  clear H
  intro p1 w1 H
  refine rFieldAt rfl ?_
  refine rLd (H.at 0 rfl) 0 rfl rfl rfl ?_
  refine H.fronts [1] ?_
  clear H
  intro H
  refine CallP.mk (Fc.imp (Go.Proofs.YtndhikahjmgamaaGreatDoor.Bin.named H ?_ _ ?_) ?_)
  · assumption
  · assumption
  clear H
  rintro v' w2 ⟨c1, ⟨h1, H⟩⟩
  refine rFieldAt rfl ?_
  refine rLd (H.at 1 rfl) 1 rfl rfl rfl ?_
  refine CallP.mk (Fc.imp (Go.Proofs.YtndhikahjmgamaaGreatDoor.Bin.index H _) ?_)
  clear H
  rintro va' w3 ⟨c2, ⟨h2, H⟩⟩
  refine Done.mk ?_
  refine ⟨c2, ?_⟩
  refine ⟨?_, ?_⟩
  · exact FE.two (by assumption) (by assumption)
  refine H.drop 1 ?_
  clear H
  intro H
  exact H

theorem eachEx (H : Sat g w (Pt pc [.int .i64 b] 154 :: l)) (hT : U8F g) (m : Int) (v : Value) (xs : List (List UInt8 × Int)) (hx : FSl g enIm okIm 2 v xs) : Fc Tryz.prog 89 #[.pointer (some ⟨pc, 0, none⟩), v, .int .i64 m, .func (.func 90) #[.pointer (some ⟨pc, 0, none⟩)] #[]] w (fun _ w' => ∃ c, FE b (eachE m impE xs) c ∧ Sat g w' (Pt pc [.int .i64 c] 154 :: l)) := by
  refine Fc.of Tryz.func89 rfl (by kernel_rfl) ?_
  have hbd := SlR.len hx
  refine rLenF hx rfl ?_
  refine CallP.mk (Fc.imp (Go.Proofs.YtndhikahjmgamaaGreatDoor.Bin.need H _ _) ?_)
  clear H
  rintro v' w1 ⟨c1, ⟨h1, H⟩⟩
  refine rLenF hx rfl ?_
  refine LoopP.rule (α := Nat × Int) (0, c1) (fun x_ => [(18, .int .i64 x_.1)]) (fun x_ w_ => (x_.1 ≤ xs.length) ∧ (fst x_.2 (allE impE (xs.drop x_.1)) = fst b (eachE m impE xs)) ∧ Sat g w_ ((Pt pc [.int .i64 x_.2] 154 :: l))) (fun x_ => xs.length - x_.1) ?_ ?_ ?_
  · repeat first | exact mt_nil | refine mt_cons rfl ?_ | refine mt_i rfl (by first | omega | (simp only; omega) | (simp; omega) | (simp; done)) ?_
  · try simp only
    refine ⟨?_, ?_⟩
    · omega
    refine ⟨?_, ?_⟩
    · exact ex0 (by assumption)
    exact H
  clear H
  rintro ⟨i, d⟩ f_ w_ ⟨hi, hb, H⟩
  try simp only at hi hb H ⊢
  refine cI (fun c2 => ?_) (fun c2 => ?_)
  · replace c2 := vLt_t (c2)
    refine bk ?_
    obtain ⟨x1, hx1⟩ : ∃ x, (xs)[(i)]? = some x := ⟨_, List.getElem?_eq_getElem (by omega)⟩
    obtain ⟨b1, o1, E1, F1, hok1⟩ := FSl.elt hx hx1
    have hok1_name := hok1.name
    have hok1_ty := hok1.ty
    refine rIxE E1 rfl rfl rfl ?_
    refine rLdA (H.fat F1) 0 rfl rfl rfl ?_
    refine rAllocS H rfl ?_
    clear H
    intro p1 w2 H
    clear w_
    refine rStAS H 0 rfl rfl rfl rfl ?_
    clear H
    intro w3 H
    clear w2
    refine rFieldAt rfl ?_
    refine rLd (H.at 1 rfl) 0 rfl rfl rfl ?_
    refine cI (fun c3 => ?_) (fun c3 => ?_)
    · replace c3 := vNe_t (c3)
      refine Done.mk ?_
      refine ⟨d, ?_⟩
      refine ⟨?_, ?_⟩
      · exact ex2 (by omega) hb
      refine H.fronts [1] ?_
      clear H
      intro H
      refine H.drop 1 ?_
      clear H
      intro H
      exact H
    replace c3 := vNe_f (c3)
    refine rLdA (H.at 0 rfl) 0 rfl rfl rfl ?_
    refine H.fronts [1] ?_
    clear H
    intro H
    refine CallP.mk (Fc.imp (Go.Proofs.YtndhikahjmgamaaGreatDoor.Bin.shown H ?_ _ ?_) ?_)
    · assumption
    · assumption
    clear H
    rintro va' w2 ⟨c4, ⟨h2, H⟩⟩
    refine eqI64 (by omega) ?_
    refine Nxt.mk ((i + 1, c4)) (mt_i rfl (by first | omega | (simp only; omega) | (simp; omega)) (mt_nil)) ?_ ?_
    · refine ⟨?_, ?_⟩
      · omega
      refine ⟨?_, ?_⟩
      · exact ex3 hx1 (by assumption) hb
      refine H.drop 1 ?_
      clear H
      intro H
      exact H
    omega
  replace c2 := vLt_f (c2)
  refine Done.mk ?_
  refine ⟨d, ?_⟩
  refine ⟨?_, ?_⟩
  · exact ex1 (by omega) hb
  exact H

theorem elem (H : Sat g w (Pt pc [.int .i64 b] 154 :: l)) (x : ElV) (hx : okEl g x) : Fc Tryz.prog 92 #[.pointer (some ⟨pc, 0, none⟩), .agg #[.int .i64 x.pl, x.vf]] w (fun _ w' => ∃ c, FE b (elE x.d) c ∧ Sat g w' (Pt pc [.int .i64 c] 154 :: l)) := by
  refine Fc.of Tryz.func92 rfl (by kernel_rfl) ?_
  have hx_pl := hx.pl
  have hx_fs := hx.fs
  refine rBoxS H ?_
  clear H
  intro p1 w1 H
  refine rFieldAt rfl ?_
  refine rLd (H.at 0 rfl) 0 rfl rfl rfl ?_
  refine H.fronts [1] ?_
  clear H
  intro H
  refine CallP.mk (Fc.imp (Go.Proofs.YtndhikahjmgamaaGreatDoor.Bin.place H _ ?_) ?_)
  · assumption
  clear H
  rintro v' w2 ⟨c1, ⟨h1, H⟩⟩
  refine rFieldAt rfl ?_
  refine rLd (H.at 1 rfl) 1 rfl rfl rfl ?_
  refine CallP.mk (Fc.imp (Go.Proofs.YtndhikahjmgamaaGreatDoor.Bin.eachN H _ _ _ hx_fs) ?_)
  clear H
  rintro va' w3 ⟨c2, ⟨h2, H⟩⟩
  refine Done.mk ?_
  refine ⟨c2, ?_⟩
  refine ⟨?_, ?_⟩
  · exact FE.two (by assumption) (by assumption)
  refine H.drop 1 ?_
  clear H
  intro H
  exact H

theorem eachEl (H : Sat g w (Pt pc [.int .i64 b] 154 :: l)) (m : Int) (v : Value) (xs : List ElV) (hx : FSl g enEl (okEl g) 2 v xs) : Fc Tryz.prog 91 #[.pointer (some ⟨pc, 0, none⟩), v, .int .i64 m, .func (.func 92) #[.pointer (some ⟨pc, 0, none⟩)] #[]] w (fun _ w' => ∃ c, FE b (eachE m (fun x : ElV => elE x.d) xs) c ∧ Sat g w' (Pt pc [.int .i64 c] 154 :: l)) := by
  refine Fc.of Tryz.func91 rfl (by kernel_rfl) ?_
  have hbd := SlR.len hx
  refine rLenF hx rfl ?_
  refine CallP.mk (Fc.imp (Go.Proofs.YtndhikahjmgamaaGreatDoor.Bin.need H _ _) ?_)
  clear H
  rintro v' w1 ⟨c1, ⟨h1, H⟩⟩
  refine rLenF hx rfl ?_
  refine LoopP.rule (α := Nat × Int) (0, c1) (fun x_ => [(18, .int .i64 x_.1)]) (fun x_ w_ => (x_.1 ≤ xs.length) ∧ (fst x_.2 (allE (fun x : ElV => elE x.d) (xs.drop x_.1)) = fst b (eachE m (fun x : ElV => elE x.d) xs)) ∧ Sat g w_ ((Pt pc [.int .i64 x_.2] 154 :: l))) (fun x_ => xs.length - x_.1) ?_ ?_ ?_
  · repeat first | exact mt_nil | refine mt_cons rfl ?_ | refine mt_i rfl (by first | omega | (simp only; omega) | (simp; omega) | (simp; done)) ?_
  · try simp only
    refine ⟨?_, ?_⟩
    · omega
    refine ⟨?_, ?_⟩
    · exact ex0 (by assumption)
    exact H
  clear H
  rintro ⟨i, d⟩ f_ w_ ⟨hi, hb, H⟩
  try simp only at hi hb H ⊢
  refine cI (fun c2 => ?_) (fun c2 => ?_)
  · replace c2 := vLt_t (c2)
    refine bk ?_
    obtain ⟨x1, hx1⟩ : ∃ x, (xs)[(i)]? = some x := ⟨_, List.getElem?_eq_getElem (by omega)⟩
    obtain ⟨b1, o1, E1, F1, hok1⟩ := FSl.elt hx hx1
    have hok1_pl := hok1.pl
    have hok1_fs := hok1.fs
    refine rIxE E1 rfl rfl rfl ?_
    refine rLdA (H.fat F1) 0 rfl rfl rfl ?_
    refine rAllocS H rfl ?_
    clear H
    intro p1 w2 H
    clear w_
    refine rStAS H 0 rfl rfl rfl (by simp only [List.all_cons, List.all_nil, FSl.one hok1_fs, FSl.one hx]; rfl) ?_
    clear H
    intro w3 H
    clear w2
    refine rFieldAt rfl ?_
    refine rLd (H.at 1 rfl) 0 rfl rfl rfl ?_
    refine cI (fun c3 => ?_) (fun c3 => ?_)
    · replace c3 := vNe_t (c3)
      refine Done.mk ?_
      refine ⟨d, ?_⟩
      refine ⟨?_, ?_⟩
      · exact ex2 (by omega) hb
      refine H.fronts [1] ?_
      clear H
      intro H
      refine H.drop 1 ?_
      clear H
      intro H
      exact H
    replace c3 := vNe_f (c3)
    refine rLdA (H.at 0 rfl) 0 rfl rfl rfl ?_
    refine H.fronts [1] ?_
    clear H
    intro H
    refine CallP.mk (Fc.imp (Go.Proofs.YtndhikahjmgamaaGreatDoor.Bin.elem H _ ?_) ?_)
    · assumption
    clear H
    rintro va' w2 ⟨c4, ⟨h2, H⟩⟩
    refine eqI64 (by omega) ?_
    refine Nxt.mk ((i + 1, c4)) (mt_i rfl (by first | omega | (simp only; omega) | (simp; omega)) (mt_nil)) ?_ ?_
    · refine ⟨?_, ?_⟩
      · omega
      refine ⟨?_, ?_⟩
      · exact ex3 hx1 (by assumption) hb
      refine H.drop 1 ?_
      clear H
      intro H
      exact H
    omega
  replace c2 := vLt_f (c2)
  refine Done.mk ?_
  refine ⟨d, ?_⟩
  refine ⟨?_, ?_⟩
  · exact ex1 (by omega) hb
  exact H

theorem dat1 (H : Sat g w (Pt pc [.int .i64 b] 154 :: Pt q [.pointer (some ⟨pc, 0, none⟩)] 152 :: l)) (x : Int × List UInt8) (hx : okDt x) : Fc Tryz.prog 94 #[.agg #[.int .i64 x.1, .string (bs x.2)], .pointer (some ⟨q, 0, none⟩)] w (fun _ w' => ∃ c, FE b (datE x) c ∧ Sat g w' (Pt pc [.int .i64 c] 154 :: Pt q [.pointer (some ⟨pc, 0, none⟩)] 152 :: l)) := by
  refine Fc.of Tryz.func94 rfl (by kernel_rfl) ?_
  have hx_pl := hx.pl
  have hx_bytes := hx.bytes
  refine rBoxS H ?_
  clear H
  intro p1 w1 H
  refine rLd (H.at 2 rfl) 0 rfl rfl rfl ?_
  refine rFieldAt rfl ?_
  refine rLd (H.at 0 rfl) 0 rfl rfl rfl ?_
  refine H.fronts [1] ?_
  clear H
  intro H
  refine CallP.mk (Fc.imp (Go.Proofs.YtndhikahjmgamaaGreatDoor.Bin.place H _ ?_) ?_)
  · assumption
  clear H
  rintro v' w2 ⟨c1, ⟨h1, H⟩⟩
  refine rLd (H.at 2 rfl) 0 rfl rfl rfl ?_
  refine rFieldAt rfl ?_
  refine rLd (H.at 1 rfl) 1 rfl rfl rfl ?_
  refine rLenStr rfl ?_
  refine CallP.mk (Fc.imp (Go.Proofs.YtndhikahjmgamaaGreatDoor.Bin.need H _ _) ?_)
  clear H
  rintro va' w3 ⟨c2, ⟨h2, H⟩⟩
  refine Done.mk ?_
  refine ⟨c2, ?_⟩
  refine ⟨?_, ?_⟩
  · exact dt1 h1 (by assumption)
  refine H.fronts [2, 1] ?_
  clear H
  intro H
  refine H.drop 2 ?_
  clear H
  intro H
  exact H

theorem eachDt (H : Sat g w (Pt pc [.int .i64 b] 154 :: Pt q [.pointer (some ⟨pc, 0, none⟩)] 152 :: l)) (m : Int) (v : Value) (xs : List (Int × List UInt8)) (hx : FSl g enDt okDt 2 v xs) : Fc Tryz.prog 93 #[.pointer (some ⟨pc, 0, none⟩), v, .int .i64 m, .func (.func 94) #[] #[.pointer (some ⟨q, 0, none⟩)]] w (fun _ w' => ∃ c, FE b (eachE m datE xs) c ∧ Sat g w' (Pt pc [.int .i64 c] 154 :: Pt q [.pointer (some ⟨pc, 0, none⟩)] 152 :: l)) := by
  refine Fc.of Tryz.func93 rfl (by kernel_rfl) ?_
  have hbd := SlR.len hx
  refine rLenF hx rfl ?_
  refine CallP.mk (Fc.imp (Go.Proofs.YtndhikahjmgamaaGreatDoor.Bin.need H _ _) ?_)
  clear H
  rintro v' w1 ⟨c1, ⟨h1, H⟩⟩
  refine rLenF hx rfl ?_
  refine LoopP.rule (α := Nat × Int) (0, c1) (fun x_ => [(18, .int .i64 x_.1)]) (fun x_ w_ => (x_.1 ≤ xs.length) ∧ (fst x_.2 (allE datE (xs.drop x_.1)) = fst b (eachE m datE xs)) ∧ Sat g w_ ((Pt pc [.int .i64 x_.2] 154 :: Pt q [.pointer (some ⟨pc, 0, none⟩)] 152 :: l))) (fun x_ => xs.length - x_.1) ?_ ?_ ?_
  · repeat first | exact mt_nil | refine mt_cons rfl ?_ | refine mt_i rfl (by first | omega | (simp only; omega) | (simp; omega) | (simp; done)) ?_
  · try simp only
    refine ⟨?_, ?_⟩
    · omega
    refine ⟨?_, ?_⟩
    · exact ex0 (by assumption)
    exact H
  clear H
  rintro ⟨i, d⟩ f_ w_ ⟨hi, hb, H⟩
  try simp only at hi hb H ⊢
  refine cI (fun c2 => ?_) (fun c2 => ?_)
  · replace c2 := vLt_t (c2)
    refine bk ?_
    obtain ⟨x1, hx1⟩ : ∃ x, (xs)[(i)]? = some x := ⟨_, List.getElem?_eq_getElem (by omega)⟩
    obtain ⟨b1, o1, E1, F1, hok1⟩ := FSl.elt hx hx1
    have hok1_pl := hok1.pl
    have hok1_bytes := hok1.bytes
    refine rIxE E1 rfl rfl rfl ?_
    refine rLdA (H.fat F1) 0 rfl rfl rfl ?_
    refine rAllocS H rfl ?_
    clear H
    intro p1 w2 H
    clear w_
    refine rStAS H 0 rfl rfl rfl rfl ?_
    clear H
    intro w3 H
    clear w2
    refine rFieldAt rfl ?_
    refine rLd (H.at 1 rfl) 0 rfl rfl rfl ?_
    refine cI (fun c3 => ?_) (fun c3 => ?_)
    · replace c3 := vNe_t (c3)
      refine Done.mk ?_
      refine ⟨d, ?_⟩
      refine ⟨?_, ?_⟩
      · exact ex2 (by omega) hb
      refine H.fronts [2, 2] ?_
      clear H
      intro H
      refine H.drop 2 ?_
      clear H
      intro H
      exact H
    replace c3 := vNe_f (c3)
    refine rLdA (H.at 0 rfl) 0 rfl rfl rfl ?_
    refine H.fronts [2, 2] ?_
    clear H
    intro H
    refine CallP.mk (Fc.imp (Go.Proofs.YtndhikahjmgamaaGreatDoor.Bin.dat1 H _ ?_) ?_)
    · assumption
    clear H
    rintro va' w2 ⟨c4, ⟨h2, H⟩⟩
    refine eqI64 (by omega) ?_
    refine Nxt.mk ((i + 1, c4)) (mt_i rfl (by first | omega | (simp only; omega) | (simp; omega)) (mt_nil)) ?_ ?_
    · refine ⟨?_, ?_⟩
      · omega
      refine ⟨?_, ?_⟩
      · exact ex3 hx1 (by assumption) hb
      refine H.drop 2 ?_
      clear H
      intro H
      exact H
    omega
  replace c2 := vLt_f (c2)
  refine Done.mk ?_
  refine ⟨d, ?_⟩
  refine ⟨?_, ?_⟩
  · exact ex1 (by omega) hb
  exact H

end
end Go.Proofs.YtndhikahjmgamaaGreatDoor.Bin
/- Package bin: Check. -/
set_option maxRecDepth 100000
set_option maxHeartbeats 4000000
set_option linter.unusedVariables false
set_option linter.unusedSimpArgs false
namespace Go.Proofs.YtndhikahjmgamaaGreatDoor.Bin
open Go Go.Proofs.YtndhikahjmgamaaGreatDoor.Eng Go.RowKit
open Ins Nest Leb
section
variable {g : Glob} {w : World} {l : List As}
theorem nd_ge {a : Int} : ndE (vLe 0 a) 1 = geE 0 a := by
  unfold ndE geE
  by_cases h : 0 ≤ a
  · rw [if_pos (by rw [vLe_iff]; simpa using h), if_pos h]
  · rw [if_neg (by rw [vLe_iff]; simpa using h), if_neg h]
theorem nd_pg {a m : Int} (h0 : 0 ≤ a) : ndE (vLe a m) 1 = pagE a m := by
  unfold ndE pagE
  by_cases h : a ≤ m
  · rw [if_pos (by rw [vLe_iff]; simpa using h), if_pos ⟨h0, h⟩]
  · rw [if_neg (by rw [vLe_iff]; simpa using h), if_neg (fun k => h k.2)]
theorem nd_pn {a m : Int} (h0 : a < 0) : ndE false 1 = pagE a m := by
  unfold ndE pagE
  rw [if_neg (by decide), if_neg (by omega)]
theorem chk_fin {m : ModV} {c1 c2 c3 c4 c5 c6 c7 c8 c9 c10 c11 c12 e4 e5 e6 e7 : Int} (h1 : FE 0 (eachE 16 (fun x => sigE x.d) m.types) c1) (h2 : FE c1 (eachE 16 impE m.imps) c2) (h3 : FE c2 (eachE 16 (fun x => funE x.d) m.funcs) c3)
    (h4 : FE c3 e4 c4) (h5 : FE c4 e5 c5) (h6 : FE c5 e6 c6) (h7 : FE c6 e7 c7) (h8 : FE c7 (eachE 8 gloE m.globals) c8) (h9 : FE c8 (eachE 8 impE m.exps) c9) (h10 : FE c9 (indexE m.start) c10)
    (h11 : FE c10 (eachE 4 (fun x => elE x.d) m.elems) c11) (h12 : FE c11 (eachE 4 datE m.data) c12) (k4 : e4 = geE 0 m.table) (k5 : e5 = leE m.table 16) (k6 : e6 = pagE m.pages m.most) (k7 : e7 = leE m.most 8) : c12 = chkM m.d := by
  subst k4 k5 k6 k7
  unfold FE at *
  subst h1 h2 h3 h4 h5 h6 h7 h8 h9 h10 h11 h12
  simp only [fst_assoc, fst_0]
  unfold chkM
  simp only [ModV.d, eachE_map]
theorem check (H : Sat g w l) (hT : U8F g) (m : ModV) (hm : okMd g m) : Fc Tryz.prog 56 #[.agg #[m.vt, m.vm, m.vf, .int .i64 m.table, .int .i64 m.pages, .int .i64 m.most, m.vg, m.vx, .int .i64 m.start, m.ve, m.vd]] w (fun v w' => (∃ e, v = .int .i64 e ∧ e = chkM m.d) ∧ Sat g w' l) := by
  refine Fc.of Tryz.func56 rfl (by kernel_rfl) ?_
  have hm_types := hm.types
  have hm_imps := hm.imps
  have hm_funcs := hm.funcs
  have hm_globals := hm.globals
  have hm_exps := hm.exps
  have hm_elems := hm.elems
  have hm_data := hm.data
  refine rBoxS H ?_
  clear H
  intro p1 w1 H
  refine rBuild rfl rfl rfl ?_
  refine rBoxS H ?_
  clear H
  intro p2 w2 H
  clear w1
  refine rAllocS H rfl ?_
  clear H
  intro p3 w1 H
  clear w2
  refine rStS H 0 rfl rfl rfl rfl ?_
  clear H
  intro w2 H
  clear w1
  refine rLd (H.at 0 rfl) 0 rfl rfl rfl ?_
  refine rFieldAt rfl ?_
  refine rLd (H.at 2 rfl) 0 rfl rfl rfl ?_
  refine rLd (H.at 0 rfl) 0 rfl rfl rfl ?_
  refine H.fronts [1] ?_
  clear H
  intro H
  refine CallP.mk (Fc.imp (Go.Proofs.YtndhikahjmgamaaGreatDoor.Bin.eachSg H _ _ _ hm_types) ?_)
  clear H
  rintro v' w1 ⟨c1, ⟨h1, H⟩⟩
  refine rLd (H.at 1 rfl) 0 rfl rfl rfl ?_
  refine rFieldAt rfl ?_
  refine rLd (H.at 2 rfl) 1 rfl rfl rfl ?_
  refine CallP.mk (Fc.imp (Go.Proofs.YtndhikahjmgamaaGreatDoor.Bin.eachIm H ?_ _ _ _ hm_imps) ?_)
  · assumption
  clear H
  rintro va' w3 ⟨c2, ⟨h2, H⟩⟩
  refine rLd (H.at 1 rfl) 0 rfl rfl rfl ?_
  refine rFieldAt rfl ?_
  refine rLd (H.at 2 rfl) 2 rfl rfl rfl ?_
  refine rLd (H.at 1 rfl) 0 rfl rfl rfl ?_
  refine CallP.mk (Fc.imp (Go.Proofs.YtndhikahjmgamaaGreatDoor.Bin.eachFn H _ _ _ hm_funcs) ?_)
  clear H
  rintro vb' w4 ⟨c3, ⟨h3, H⟩⟩
  refine rLd (H.at 1 rfl) 0 rfl rfl rfl ?_
  refine rFieldAt rfl ?_
  refine rLd (H.at 2 rfl) 3 rfl rfl rfl ?_
  refine CallP.mk (Fc.imp (Go.Proofs.YtndhikahjmgamaaGreatDoor.Bin.need H _ _) ?_)
  clear H
  rintro vc' w5 ⟨c4, ⟨h4, H⟩⟩
  refine rLd (H.at 1 rfl) 0 rfl rfl rfl ?_
  refine rFieldAt rfl ?_
  refine rLd (H.at 2 rfl) 3 rfl rfl rfl ?_
  refine CallP.mk (Fc.imp (Go.Proofs.YtndhikahjmgamaaGreatDoor.Bin.need H _ _) ?_)
  clear H
  rintro vd' w6 ⟨c5, ⟨h5, H⟩⟩
  refine rLd (H.at 1 rfl) 0 rfl rfl rfl ?_
  refine rFieldAt rfl ?_
  refine rLd (H.at 2 rfl) 4 rfl rfl rfl ?_
  refine br (fun c6 => ?_) (fun c6 => ?_)
  · replace c6 := vLe_t (c6)
    refine rFieldAt rfl ?_
    refine rLd (H.at 2 rfl) 4 rfl rfl rfl ?_
    refine rFieldAt rfl ?_
    refine rLd (H.at 2 rfl) 5 rfl rfl rfl ?_
    refine CallP.mk (Fc.imp (Go.Proofs.YtndhikahjmgamaaGreatDoor.Bin.need H _ _) ?_)
    clear H
    rintro ve' w7 ⟨c7, ⟨h6, H⟩⟩
    refine rLd (H.at 1 rfl) 0 rfl rfl rfl ?_
    refine rFieldAt rfl ?_
    refine rLd (H.at 2 rfl) 5 rfl rfl rfl ?_
    refine CallP.mk (Fc.imp (Go.Proofs.YtndhikahjmgamaaGreatDoor.Bin.need H _ _) ?_)
    clear H
    rintro vf' w8 ⟨c8, ⟨h7, H⟩⟩
    refine rLd (H.at 1 rfl) 0 rfl rfl rfl ?_
    refine rFieldAt rfl ?_
    refine rLd (H.at 2 rfl) 6 rfl rfl rfl ?_
    refine CallP.mk (Fc.imp (Go.Proofs.YtndhikahjmgamaaGreatDoor.Bin.eachGl H _ _ _ hm_globals) ?_)
    clear H
    rintro vg' w9 ⟨c9, ⟨h8, H⟩⟩
    refine rLd (H.at 1 rfl) 0 rfl rfl rfl ?_
    refine rFieldAt rfl ?_
    refine rLd (H.at 2 rfl) 7 rfl rfl rfl ?_
    refine rLd (H.at 1 rfl) 0 rfl rfl rfl ?_
    refine CallP.mk (Fc.imp (Go.Proofs.YtndhikahjmgamaaGreatDoor.Bin.eachEx H ?_ _ _ _ hm_exps) ?_)
    · assumption
    clear H
    rintro vh' w10 ⟨c10, ⟨h9, H⟩⟩
    refine rLd (H.at 1 rfl) 0 rfl rfl rfl ?_
    refine rFieldAt rfl ?_
    refine rLd (H.at 2 rfl) 8 rfl rfl rfl ?_
    refine CallP.mk (Fc.imp (Go.Proofs.YtndhikahjmgamaaGreatDoor.Bin.index H _) ?_)
    clear H
    rintro v' w11 ⟨c11, ⟨h10, H⟩⟩
    refine rLd (H.at 1 rfl) 0 rfl rfl rfl ?_
    refine rFieldAt rfl ?_
    refine rLd (H.at 2 rfl) 9 rfl rfl rfl ?_
    refine rLd (H.at 1 rfl) 0 rfl rfl rfl ?_
    refine CallP.mk (Fc.imp (Go.Proofs.YtndhikahjmgamaaGreatDoor.Bin.eachEl H _ _ _ hm_elems) ?_)
    clear H
    rintro v' w12 ⟨c12, ⟨h11, H⟩⟩
    refine rLd (H.at 1 rfl) 0 rfl rfl rfl ?_
    refine rFieldAt rfl ?_
    refine rLd (H.at 2 rfl) 10 rfl rfl rfl ?_
    refine CallP.mk (Fc.imp (Go.Proofs.YtndhikahjmgamaaGreatDoor.Bin.eachDt H _ _ _ hm_data) ?_)
    clear H
    rintro v' w13 ⟨c13, ⟨h12, H⟩⟩
    refine rLd (H.at 1 rfl) 0 rfl rfl rfl ?_
    refine rFieldAt rfl ?_
    refine rLd (H.at 0 rfl) 0 rfl rfl rfl ?_
    refine Done.mk ?_
    refine ⟨?_, ?_⟩
    · refine ⟨c13, ?_⟩
      refine ⟨?_, ?_⟩
      · refine int_eq ?_
        omega
      exact chk_fin h1 h2 h3 h4 h5 h6 h7 h8 h9 h10 h11 h12 nd_ge nd_le (nd_pg (by omega)) nd_le
    refine H.drop 2 ?_
    clear H
    intro H
    refine H.drop 1 ?_
    clear H
    intro H
    refine H.drop 0 ?_
    clear H
    intro H
    exact H
  replace c6 := vLe_f (c6)
  refine CallP.mk (Fc.imp (Go.Proofs.YtndhikahjmgamaaGreatDoor.Bin.need H _ _) ?_)
  clear H
  rintro ve' w7 ⟨c7, ⟨h6, H⟩⟩
  refine rLd (H.at 1 rfl) 0 rfl rfl rfl ?_
  refine rFieldAt rfl ?_
  refine rLd (H.at 2 rfl) 5 rfl rfl rfl ?_
  refine CallP.mk (Fc.imp (Go.Proofs.YtndhikahjmgamaaGreatDoor.Bin.need H _ _) ?_)
  clear H
  rintro vf' w8 ⟨c8, ⟨h7, H⟩⟩
  refine rLd (H.at 1 rfl) 0 rfl rfl rfl ?_
  refine rFieldAt rfl ?_
  refine rLd (H.at 2 rfl) 6 rfl rfl rfl ?_
  refine CallP.mk (Fc.imp (Go.Proofs.YtndhikahjmgamaaGreatDoor.Bin.eachGl H _ _ _ hm_globals) ?_)
  clear H
  rintro vg' w9 ⟨c9, ⟨h8, H⟩⟩
  refine rLd (H.at 1 rfl) 0 rfl rfl rfl ?_
  refine rFieldAt rfl ?_
  refine rLd (H.at 2 rfl) 7 rfl rfl rfl ?_
  refine rLd (H.at 1 rfl) 0 rfl rfl rfl ?_
  refine CallP.mk (Fc.imp (Go.Proofs.YtndhikahjmgamaaGreatDoor.Bin.eachEx H ?_ _ _ _ hm_exps) ?_)
  · assumption
  clear H
  rintro vh' w10 ⟨c10, ⟨h9, H⟩⟩
  refine rLd (H.at 1 rfl) 0 rfl rfl rfl ?_
  refine rFieldAt rfl ?_
  refine rLd (H.at 2 rfl) 8 rfl rfl rfl ?_
  refine CallP.mk (Fc.imp (Go.Proofs.YtndhikahjmgamaaGreatDoor.Bin.index H _) ?_)
  clear H
  rintro v' w11 ⟨c11, ⟨h10, H⟩⟩
  refine rLd (H.at 1 rfl) 0 rfl rfl rfl ?_
  refine rFieldAt rfl ?_
  refine rLd (H.at 2 rfl) 9 rfl rfl rfl ?_
  refine rLd (H.at 1 rfl) 0 rfl rfl rfl ?_
  refine CallP.mk (Fc.imp (Go.Proofs.YtndhikahjmgamaaGreatDoor.Bin.eachEl H _ _ _ hm_elems) ?_)
  clear H
  rintro v' w12 ⟨c12, ⟨h11, H⟩⟩
  refine rLd (H.at 1 rfl) 0 rfl rfl rfl ?_
  refine rFieldAt rfl ?_
  refine rLd (H.at 2 rfl) 10 rfl rfl rfl ?_
  refine CallP.mk (Fc.imp (Go.Proofs.YtndhikahjmgamaaGreatDoor.Bin.eachDt H _ _ _ hm_data) ?_)
  clear H
  rintro v' w13 ⟨c13, ⟨h12, H⟩⟩
  refine rLd (H.at 1 rfl) 0 rfl rfl rfl ?_
  refine rFieldAt rfl ?_
  refine rLd (H.at 0 rfl) 0 rfl rfl rfl ?_
  refine Done.mk ?_
  refine ⟨?_, ?_⟩
  · refine ⟨c13, ?_⟩
    refine ⟨?_, ?_⟩
    · refine int_eq ?_
      omega
    exact chk_fin h1 h2 h3 h4 h5 h6 h7 h8 h9 h10 h11 h12 nd_ge nd_le (nd_pn (by omega)) nd_le
  refine H.drop 2 ?_
  clear H
  intro H
  refine H.drop 1 ?_
  clear H
  intro H
  refine H.drop 0 ?_
  clear H
  intro H
  exact H
end
end Go.Proofs.YtndhikahjmgamaaGreatDoor.Bin
/- Package valid: what is checked, in plain words. -/
set_option maxRecDepth 100000
set_option maxHeartbeats 4000000
set_option linter.unusedVariables false
set_option linter.unusedSimpArgs false
namespace Go.Proofs.YtndhikahjmgamaaGreatDoor.Valid
open Go Go.Proofs.YtndhikahjmgamaaGreatDoor.Eng Go.RowKit
open Ins Nest Leb Bin
/-- What of a module the bodies' check looks at. -/
structure VEnv where
  types : List SigD
  imps : List Int
  funs : List Int
  globals : List (Int × Bool × Int)
  table : Int
  most : Int
def envOf (m : ModD) : VEnv := ⟨m.types, m.imps.map (·.2), m.funcs.map (·.ty), m.globals, m.table, m.most⟩
/-- The number of a function's type. -/
def typI (E : VEnv) (n : Int) : Option Int := if n < 0 then none else if n < E.imps.length then E.imps[n.toNat]? else E.funs[n.toNat - E.imps.length]?
def typS (E : VEnv) (n : Int) : Option SigD := (typI E n).bind fun k => E.types[k.toNat]?
structure PartD where
  op : Int
  kind : Int
  base : Nat
  dead : Bool
  under : Bool
def pz : PartD := ⟨0, 0, 0, false, false⟩
structure Ck where
  stack : List Int
  opn : List PartD
  bad : Int
def failS (c : Ck) (e : Int) : Ck := if c.bad = 0 then { c with bad := e } else c
def pushS (c : Ck) (k : Int) : Ck := if k ≠ 64 then { c with stack := c.stack ++ [k] } else c
def topS (c : Ck) : PartD := c.opn.getD (c.opn.length - 1) pz
def popS (c : Ck) (want : Int) : Ck × Int :=
  if want = 64 then (c, 64)
  else if c.stack.length = (topS c).base then (if (topS c).dead = true then c else failS c 10, want)
  else
    let k := c.stack.getD (c.stack.length - 1) 0
    let c1 : Ck := { c with stack := c.stack.take (c.stack.length - 1) }
    if k = 0 then (c1, want) else if want ≠ 0 ∧ k ≠ want then (failS c1 10, k) else (c1, k)
def takesS (c : Ck) : List Int → Ck
  | [] => c
  | k :: r => (popS (takesS c r) k).1
def givesS (c : Ck) : List Int → Ck
  | [] => c
  | k :: r => givesS (pushS c k) r
def dieS (c : Ck) : Ck := { c with stack := c.stack.take (topS c).base, opn := c.opn.set (c.opn.length - 1) { topS c with dead := true } }
def outS (c : Ck) (n : Int) : Ck × PartD := if c.opn.length ≤ n then (failS c 8, pz) else (c, c.opn.getD (c.opn.length - 1 - n.toNat) pz)
def alongS (p : PartD) : Int := if p.op = 3 then 64 else p.kind
def underS (c : Ck) : Bool := if c.opn = [] then false else (topS c).dead || (topS c).under
def beginS (c : Ck) (op kind : Int) : Ck := { c with opn := c.opn ++ [⟨op, kind, c.stack.length, false, underS c⟩] }
def closeS (c : Ck) : Ck := if (popS c (topS c).kind).1.stack.length ≠ (topS c).base then failS (popS c (topS c).kind).1 10 else (popS c (topS c).kind).1
def wayS (c : Ck) (a : Int) : Ck := if (outS c a).1.bad = 0 then (popS (outS c a).1 (alongS (outS c a).2)).1 else (outS c a).1
/-- The ways of a table, one by one. -/
def waysS (k : Int) : List Int → Ck × Bool → Ck × Bool
  | [], s => s
  | n :: r, s => waysS k r ((outS s.1 n).1, decide (alongS (outS s.1 n).2 = k) && s.2)
def tableS (c : Ck) (a : Int) (tt : List Int) : Ck :=
  let k := alongS (outS c a).2
  let s := waysS k tt ((outS c a).1, true)
  if s.1.bad ≠ 0 then s.1 else (popS (popS (if s.2 = true then s.1 else failS s.1 10) 127).1 k).1
def elseS (c : Ck) : Ck :=
  let p := topS c
  let c1 := closeS c
  if c1.bad = 0 then { c1 with opn := c1.opn.take (c1.opn.length - 1) ++ [⟨5, p.kind, p.base, false, p.under⟩] } else c1
def endS (c : Ck) : Ck :=
  let p := topS c
  let c1 := closeS c
  let c2 := if p.op = 4 ∧ p.kind ≠ 64 then failS c1 10 else c1
  if c2.bad = 0 then pushS { c2 with opn := c2.opn.take (c2.opn.length - 1) } p.kind else c2
def brifS (c : Ck) (a : Int) : Ck :=
  let k := alongS (outS c a).2
  let c1 := (outS c a).1
  if c1.bad = 0 then pushS (popS (popS c1 127).1 k).1 k else c1
def controlS (c : Ck) (x : InsD) : Ck :=
  if x.op = 0 then dieS c
  else if x.op = 2 ∨ x.op = 3 then beginS c x.op x.a
  else if x.op = 4 then beginS (popS c 127).1 x.op x.a
  else if x.op = 5 then elseS c
  else if x.op = 11 then endS c
  else if x.op = 12 then dieS (wayS c x.a)
  else if x.op = 13 then brifS c x.a
  else if x.op = 15 then dieS (popS c (c.opn.getD 0 pz).kind).1
  else if x.op = 14 then dieS (tableS c x.a x.to)
  else c
def callS (E : VEnv) (c : Ck) (x : InsD) : Ck :=
  if x.op = 16 then
    match typS E x.a with
    | none => failS c 8
    | some t => givesS (takesS c t.inn) t.out
  else if E.table = 0 ∨ (E.types.length : Int) ≤ x.a then failS c 8
  else
    let t := E.types.getD x.a.toNat ⟨[], []⟩
    givesS (takesS (popS c 127).1 t.inn) t.out
def chooseS (c : Ck) : Ck :=
  let s := popS (popS c 127).1 0
  let u := popS s.1 s.2
  pushS u.1 u.2
def valueS (E : VEnv) (L : List Int) (c : Ck) (x : InsD) : Ck :=
  if x.op < 35 then
    if (L.length : Int) ≤ x.a then failS c 8
    else
      let k := L.getD x.a.toNat 0
      let c1 := if x.op ≠ 32 then (popS c k).1 else c
      if x.op ≠ 33 then pushS c1 k else c1
  else if (E.globals.length : Int) ≤ x.a then failS c 8
  else
    let g := E.globals.getD x.a.toNat (0, false, 0)
    if x.op = 35 then pushS c g.1
    else (popS (if g.2.1 = true then c else failS c 10) g.1).1
/-- What a plain instruction takes and gives. -/
def kindAt (o : Int) : Int := if o = 40 ∨ o = 44 ∨ o = 45 ∨ o = 46 ∨ o = 47 ∨ o = 54 ∨ o = 58 ∨ o = 59 then 127 else 126
def plnS (o : Int) : List Int × List Int × Bool :=
  if (numS o).2.2 = true then ((numS o).1, [(numS o).2.1], true)
  else if 0 < wid o ∧ o < 54 then ([127], [kindAt o], true)
  else if 0 < wid o then ([127, kindAt o], [], true)
  else if o = 63 then ([], [127], true)
  else if o = 64 then ([127], [127], true)
  else if o = 65 then ([], [127], true)
  else if o = 66 then ([], [126], true)
  else ([], [], false)
def shw (a : Int) : Int := if a = 0 then 1 else if a = 1 then 2 else if a = 2 then 4 else 8
def plainS (E : VEnv) (c : Ck) (x : InsD) : Ck :=
  if E.most = 0 ∧ (0 < wid x.op ∨ x.op = 63 ∨ x.op = 64) then failS c 8
  else if 0 < wid x.op ∧ (3 < x.a ∨ wid x.op < shw x.a) then failS c 9
  else givesS (takesS c (plnS x.op).1) (plnS x.op).2.1
def oneS (E : VEnv) (L : List Int) (c : Ck) (x : InsD) : Ck :=
  if x.op = 1 then c
  else if x.op ≤ 15 then controlS c x
  else if x.op ≤ 17 then callS E c x
  else if x.op = 26 then (popS c 0).1
  else if x.op = 27 then chooseS c
  else if x.op ≤ 36 then valueS E L c x
  else plainS E c x
def runS (E : VEnv) (L : List Int) : List InsD → Ck → Ck
  | [], c => c
  | x :: r, c => if (oneS E L c x).bad ≠ 0 then oneS E L c x else runS E L r (oneS E L c x)
def startS (t : SigD) : Ck := beginS ⟨[], [], 0⟩ 2 (t.out.getD 0 64)
def bodyE (E : VEnv) (f : FunD) : Int := (runS E ((E.types.getD f.ty.toNat ⟨[], []⟩).inn ++ f.loc) f.body (startS (E.types.getD f.ty.toNat ⟨[], []⟩))).bad
end Go.Proofs.YtndhikahjmgamaaGreatDoor.Valid
/- Package valid: the checker's small methods. -/
set_option maxRecDepth 100000
set_option maxHeartbeats 4000000
set_option linter.unusedVariables false
set_option linter.unusedSimpArgs false
namespace Go.Proofs.YtndhikahjmgamaaGreatDoor.Valid
open Go Go.Proofs.YtndhikahjmgamaaGreatDoor.Eng Go.RowKit
open Ins Nest Leb Bin
def enPt (p : PartD) : List Value := [.int .u8 p.op, .int .u8 p.kind, .int .i64 (p.base : Int), .bool p.dead, .bool p.under]
/-- What a pure step comes to. -/
def Is {α : Type} (x y : α) : Prop := y = x
structure Okc (st : List Int) (op : List PartD) : Prop where
  srt : (op.map (·.base)).Pairwise (· ≤ ·)
  le : ∀ p, op[op.length - 1]? = some p → p.base ≤ st.length
theorem topS_of {st : List Int} {op : List PartD} {b : Int} {p : PartD} (h : op[op.length - 1]? = some p) : topS ⟨st, op, b⟩ = p := by
  unfold topS; simp only; rw [List.getD_eq_getElem?_getD, h]; rfl
theorem Okc.all {st : List Int} {op : List PartD} {p : PartD} (h : Okc st op) (hp : op[op.length - 1]? = some p) : ∀ q ∈ op, q.base ≤ p.base := by
  intro q hq
  obtain ⟨i, hi, rfl⟩ := List.mem_iff_getElem.1 hq
  obtain ⟨hl, e⟩ := List.getElem?_eq_some_iff.1 hp
  subst e
  rcases Nat.lt_or_ge i (op.length - 1) with h1 | h1
  · have := (List.pairwise_iff_getElem.1 h.srt) i (op.length - 1) (by simpa using hi) (by simpa using hl) h1
    simpa using this
  · have : i = op.length - 1 := by omega
    subst this; exact Nat.le_refl _
theorem Okc.fewer {st st' : List Int} {op : List PartD} {p : PartD} (h : Okc st op) (hp : op[op.length - 1]? = some p) (hl : p.base ≤ st'.length) : Okc st' op :=
  ⟨h.srt, fun q hq => by rw [hp] at hq; obtain rfl := Option.some.inj hq; exact hl⟩
theorem Okc.more {st st' : List Int} {op : List PartD} (h : Okc st op) (hl : st.length ≤ st'.length) : Okc st' op := ⟨h.srt, fun q hq => Nat.le_trans (h.le q hq) hl⟩
theorem Okc.begin_ {st : List Int} {op : List PartD} (h : Okc st op) (o k : Int) (d u : Bool) : Okc st (op ++ [⟨o, k, st.length, d, u⟩]) := by
  refine ⟨?_, fun q hq => ?_⟩
  · rw [List.map_append, List.pairwise_append]
    refine ⟨h.srt, by simp, fun a ha c hc => ?_⟩
    obtain ⟨q, hq, rfl⟩ := List.mem_map.1 ha
    have hc : c = st.length := by simpa using hc
    subst hc
    cases hl : op[op.length - 1]? with
    | none =>
      have := List.getElem?_eq_none_iff.1 hl
      have : op.length = 0 := by omega
      rw [List.length_eq_zero_iff.1 this] at hq; cases hq
    | some p => exact Nat.le_trans (h.all hl q hq) (h.le p hl)
  · rw [List.length_append, List.length_singleton, Nat.add_sub_cancel, List.getElem?_append_right (Nat.le_refl _), Nat.sub_self] at hq
    obtain rfl := Option.some.inj hq
    exact Nat.le_refl _
theorem Okc.less {st : List Int} {op : List PartD} (h : Okc st op) : Okc st (op.take (op.length - 1)) := by
  refine ⟨by rw [List.map_take]; exact h.srt.sublist (List.take_sublist _ _), fun q hq => ?_⟩
  have hm : q ∈ op := List.mem_of_mem_take (List.mem_of_getElem? hq)
  cases hl : op[op.length - 1]? with
  | none =>
    have := List.getElem?_eq_none_iff.1 hl
    have : op.length = 0 := by omega
    rw [List.length_eq_zero_iff.1 this] at hm; cases hm
  | some p => exact Nat.le_trans (h.all hl q hm) (h.le p hl)
theorem Okc.same {st : List Int} {op : List PartD} {p p' : PartD} (h : Okc st op) (hp : op[op.length - 1]? = some p) (hb : p'.base = p.base) : Okc st (op.set (op.length - 1) p') := by
  have hl := (List.getElem?_eq_some_iff.1 hp).1
  refine ⟨?_, fun q hq => ?_⟩
  · have e : (op.set (op.length - 1) p').map (·.base) = op.map (·.base) := by
      apply List.ext_getElem?
      intro i
      rw [List.map_set, List.getElem?_set]
      split
      · rename_i hi
        rw [if_pos (by simpa using hl), ← hi, List.getElem?_map, hp, Option.map_some, hb]
      · rfl
    rw [e]; exact h.srt
  · rw [List.length_set, List.getElem?_set, if_pos rfl, if_pos hl] at hq
    obtain rfl := Option.some.inj hq
    rw [hb]; exact h.le p hp
theorem set_last {op : List PartD} {p p' : PartD} (hp : op[op.length - 1]? = some p) : op.set (op.length - 1) p' = op.take (op.length - 1) ++ [p'] := by
  have hl := (List.getElem?_eq_some_iff.1 hp).1
  apply List.ext_getElem?
  intro i
  rw [List.getElem?_set]
  split
  · rename_i h; subst h
    rw [List.getElem?_append_right (by rw [List.length_take]; omega), List.length_take]
    rw [show op.length - 1 - min (op.length - 1) op.length = 0 by omega]; rfl
  · rename_i h
    rcases Nat.lt_or_ge i (op.length - 1) with h1 | h1
    · rw [List.getElem?_append_left (by rw [List.length_take]; omega), List.getElem?_take, if_pos h1]
    · rw [List.getElem?_eq_none (by omega), List.getElem?_eq_none (by rw [List.length_append, List.length_take, List.length_singleton]; omega)]
section
variable {g : Glob} {w : World} {l : List As} {pc : Nat} {m : ModV} {vl vs vo : Value} {st : List Int} {op : List PartD} {b : Int}
theorem fail_0 {st : List Int} {op : List PartD} {b e : Int} (h : b = 0) : Is (failS ⟨st, op, b⟩ e) ⟨st, op, e⟩ := (if_pos h : failS ⟨st, op, b⟩ e = _).symm
theorem fail_n {st : List Int} {op : List PartD} {b e : Int} (h : b ≠ 0) : Is (failS ⟨st, op, b⟩ e) ⟨st, op, b⟩ := (if_neg h : failS ⟨st, op, b⟩ e = _).symm
theorem fail (H : Sat g w (Pt pc [m.vt, m.vm, m.vf, .int .i64 m.table, .int .i64 m.pages, .int .i64 m.most, m.vg, m.vx, .int .i64 m.start, m.ve, m.vd, vl, vs, vo, .int .i64 b] 131 :: Sl 98 1 enK vs st :: Sl 136 5 enPt vo op :: l)) (e : Int) : Fc Tryz.prog 130 #[.pointer (some ⟨pc, 0, none⟩), .int .i64 e] w (fun _ w' => ∃ b', Is (failS ⟨st, op, b⟩ e) ⟨st, op, b'⟩ ∧ Sat g w' (Pt pc [m.vt, m.vm, m.vf, .int .i64 m.table, .int .i64 m.pages, .int .i64 m.most, m.vg, m.vx, .int .i64 m.start, m.ve, m.vd, vl, vs, vo, .int .i64 b'] 131 :: Sl 98 1 enK vs st :: Sl 136 5 enPt vo op :: l)) := by
  refine Fc.of Tryz.func130 rfl (by kernel_rfl) ?_
  refine rFieldAt rfl ?_
  refine rLd (H.at 0 rfl) 14 rfl rfl rfl ?_
  refine cI (fun c1 => ?_) (fun c1 => ?_)
  · replace c1 := vEq_t (c1)
    refine rFieldAt rfl ?_
    refine rStS H 0 rfl rfl rfl rfl ?_
    clear H
    intro w1 H
    refine Done.mk ?_
    refine ⟨e, ?_⟩
    refine ⟨?_, ?_⟩
    · exact fail_0 c1
    exact H
  replace c1 := vEq_f (c1)
  refine Done.mk ?_
  refine ⟨b, ?_⟩
  refine ⟨?_, ?_⟩
  · exact fail_n c1
  exact H
theorem push_1 {st : List Int} {op : List PartD} {b k : Int} (h : k ≠ 64) : Is (pushS ⟨st, op, b⟩ k) ⟨st ++ [k], op, b⟩ := (if_pos h : pushS ⟨st, op, b⟩ k = _).symm
theorem push_0 {st : List Int} {op : List PartD} {b k : Int} (h : k = 64) : Is (pushS ⟨st, op, b⟩ k) ⟨st, op, b⟩ := (if_neg (fun n => n h) : pushS ⟨st, op, b⟩ k = _).symm
theorem push (H : Sat g w (Pt pc [m.vt, m.vm, m.vf, .int .i64 m.table, .int .i64 m.pages, .int .i64 m.most, m.vg, m.vx, .int .i64 m.start, m.ve, m.vd, vl, vs, vo, .int .i64 b] 131 :: Sl 98 1 enK vs st :: Sl 136 5 enPt vo op :: l)) (k : Int) (hst : st.length ≤ 100000) : Fc Tryz.prog 131 #[.pointer (some ⟨pc, 0, none⟩), .int .u8 k] w (fun _ w' => ∃ vs' st', Is (pushS ⟨st, op, b⟩ k) ⟨st', op, b⟩ ∧ st.length ≤ st'.length ∧ st'.length ≤ st.length + 1 ∧ Sat g w' (Pt pc [m.vt, m.vm, m.vf, .int .i64 m.table, .int .i64 m.pages, .int .i64 m.most, m.vg, m.vx, .int .i64 m.start, m.ve, m.vd, vl, vs', vo, .int .i64 b] 131 :: Sl 98 1 enK vs' st' :: Sl 136 5 enPt vo op :: l)) := by
  refine Fc.of Tryz.func131 rfl (by kernel_rfl) ?_
  refine cI (fun c1 => ?_) (fun c1 => ?_)
  · replace c1 := vNe_t (c1)
    refine rFieldAt rfl ?_
    refine rLd (H.at 0 rfl) 12 rfl rfl rfl ?_
    refine rBuildSliceS H rfl rfl rfl rfl ?_
    clear H
    intro p1 w1 H
    refine rApS (ys := [_]) 1 H 2 rfl (H.at 0 rfl) rfl (fun y _ => rfl) rfl rfl rfl (by omega) (by omega) ?_
    intro v1
    clear H
    intro w2 H
    clear w1
    refine rFieldAt rfl ?_
    refine rStS H 1 rfl rfl rfl (H.one 2 rfl) ?_
    clear H
    intro w1 H
    clear w2
    refine Done.mk ?_
    refine ⟨v1, st ++ [k], ?_⟩
    refine ⟨?_, ?_⟩
    · exact push_1 c1
    refine ⟨?_, ?_⟩
    · (simp only [List.length_append, List.length_set, List.length_cons, List.length_nil]; omega)
    refine ⟨?_, ?_⟩
    · (simp only [List.length_append, List.length_set, List.length_cons, List.length_nil]; omega)
    refine H.fronts [3, 3, 3] ?_
    clear H
    intro H
    refine H.drop 3 ?_
    clear H
    intro H
    exact H
  replace c1 := vNe_f (c1)
  refine Done.mk ?_
  refine ⟨vs, st, ?_⟩
  refine ⟨?_, ?_⟩
  · exact push_0 c1
  refine ⟨?_, ?_⟩
  · omega
  refine ⟨?_, ?_⟩
  · omega
  exact H
theorem top (H : Sat g w (Pt pc [m.vt, m.vm, m.vf, .int .i64 m.table, .int .i64 m.pages, .int .i64 m.most, m.vg, m.vx, .int .i64 m.start, m.ve, m.vd, vl, vs, vo, .int .i64 b] 131 :: Sl 98 1 enK vs st :: Sl 136 5 enPt vo op :: l)) (p : PartD) (hp : op[op.length - 1]? = some p) (hn : 0 < op.length) (hop : op.length ≤ 100) : Fc Tryz.prog 60 #[.pointer (some ⟨pc, 0, none⟩)] w (fun r w' => ∃ b0 o0, r = .pointer (some ⟨b0, o0, none⟩) ∧ El vo 5 (op.length - 1) b0 o0 ∧ Sat g w' (Pt pc [m.vt, m.vm, m.vf, .int .i64 m.table, .int .i64 m.pages, .int .i64 m.most, m.vg, m.vx, .int .i64 m.start, m.ve, m.vd, vl, vs, vo, .int .i64 b] 131 :: Sl 98 1 enK vs st :: Sl 136 5 enPt vo op :: l)) := by
  refine Fc.of Tryz.func60 rfl (by kernel_rfl) ?_
  refine drawzS H [] [(0, .pure), (1, .pure), (2, .pure), (3, .held), (4, .pure), (5, .pure), (6, .pure), (7, .held), (8, .pure), (9, .pure), (10, .pure), (11, .pure)] mixed (by kernel_rfl) (by kernel_rfl) ?_
  clear H
  intro w1 H
  refine tk (fun wx HS => rFieldAt rfl ⟨rfl, rfl⟩) ?_
  refine tk (fun wx HS => rLd (HS.at 0 rfl) 13 rfl rfl rfl ⟨rfl, rfl⟩) ?_
  refine tk (fun wx HS => rFieldAt rfl ⟨rfl, rfl⟩) ?_
  refine tk (fun wx HS => rLd (HS.at 0 rfl) 13 rfl rfl rfl ⟨rfl, rfl⟩) ?_
  obtain ⟨a1, c1, V1⟩ := H.form 2 rfl
  refine tk (fun wx HS => rLenV V1 rfl ⟨rfl, rfl⟩) ?_
  refine eqI64 (by omega) ?_
  obtain ⟨b1, o1, E1⟩ := H.elt 2 rfl ((op.length) - 1) (by omega)
  refine tk (fun wx HS => rIxE E1 (by omega) rfl rfl ⟨rfl, rfl⟩) ?_
  refine Done.mk ?_
  refine ⟨b1, o1, ?_⟩
  refine ⟨?_, ?_⟩
  · rfl
  refine ⟨?_, ?_⟩
  · assumption
  exact H
end
end Go.Proofs.YtndhikahjmgamaaGreatDoor.Valid
/- Package valid: the checker's methods pop, begin, die, close, out. -/
set_option maxRecDepth 100000
set_option maxHeartbeats 4000000
set_option linter.unusedVariables false
set_option linter.unusedSimpArgs false
namespace Go.Proofs.YtndhikahjmgamaaGreatDoor.Valid
open Go Go.Proofs.YtndhikahjmgamaaGreatDoor.Eng Go.RowKit
open Ins Nest Leb Bin
section
variable {g : Glob} {w : World} {l : List As} {pc : Nat} {m : ModV} {vl vs vo : Value} {st : List Int} {op : List PartD} {b : Int}
theorem pop1 {want : Int} (h : want = 64) : Is (popS ⟨st, op, b⟩ want) (⟨st, op, b⟩, want) := by
  subst h; exact (if_pos rfl : popS ⟨st, op, b⟩ 64 = _).symm
theorem pop2 {want : Int} {p : PartD} (h : want ≠ 64) (hp : op[op.length - 1]? = some p) (he : st.length = p.base) (hd : p.dead = true) : Is (popS ⟨st, op, b⟩ want) (⟨st, op, b⟩, want) := by
  unfold Is popS
  rw [if_neg h, topS_of hp, if_pos he, if_pos hd]
theorem pop3 {want b' : Int} {p : PartD} (h : want ≠ 64) (hp : op[op.length - 1]? = some p) (he : st.length = p.base) (hd : p.dead = false) (hf : Is (failS ⟨st, op, b⟩ 10) ⟨st, op, b'⟩) : Is (popS ⟨st, op, b⟩ want) (⟨st, op, b'⟩, want) := by
  unfold Is at *
  unfold popS
  rw [if_neg h, topS_of hp, if_pos he, if_neg (by rw [hd]; decide), ← hf]
theorem pop4 {want k : Int} {p : PartD} (h : want ≠ 64) (hp : op[op.length - 1]? = some p) (he : ¬ st.length = p.base) (hk : st[st.length - 1]? = some k) (h0 : k = 0) : Is (popS ⟨st, op, b⟩ want) (⟨st.take (st.length - 1), op, b⟩, want) := by
  unfold Is popS
  rw [if_neg h, topS_of hp, if_neg he, List.getD_eq_getElem?_getD, hk]
  exact (if_pos h0).symm
theorem pop5 {want k b' : Int} {p : PartD} (h : want ≠ 64) (hp : op[op.length - 1]? = some p) (he : ¬ st.length = p.base) (hk : st[st.length - 1]? = some k) (h0 : k ≠ 0) (h1 : want ≠ 0) (h2 : k ≠ want) (hf : Is (failS ⟨st.take (st.length - 1), op, b⟩ 10) ⟨st.take (st.length - 1), op, b'⟩) : Is (popS ⟨st, op, b⟩ want) (⟨st.take (st.length - 1), op, b'⟩, k) := by
  unfold Is at *
  unfold popS
  rw [if_neg h, topS_of hp, if_neg he, List.getD_eq_getElem?_getD, hk, hf]
  simp only [Option.getD_some]
  rw [if_neg h0, if_pos ⟨h1, h2⟩]
theorem pop6 {want k : Int} {p : PartD} (h : want ≠ 64) (hp : op[op.length - 1]? = some p) (he : ¬ st.length = p.base) (hk : st[st.length - 1]? = some k) (h0 : k ≠ 0) (h1 : want = 0 ∨ k = want) : Is (popS ⟨st, op, b⟩ want) (⟨st.take (st.length - 1), op, b⟩, k) := by
  unfold Is popS
  rw [if_neg h, topS_of hp, if_neg he, List.getD_eq_getElem?_getD, hk]
  simp only [Option.getD_some]
  rw [if_neg h0, if_neg (by omega)]
theorem pop (H : Sat g w (Pt pc [m.vt, m.vm, m.vf, .int .i64 m.table, .int .i64 m.pages, .int .i64 m.most, m.vg, m.vx, .int .i64 m.start, m.ve, m.vd, vl, vs, vo, .int .i64 b] 131 :: Sl 98 1 enK vs st :: Sl 136 5 enPt vo op :: l)) (want : Int) (hn : 0 < op.length) (hop : op.length ≤ 100) (hst : st.length ≤ 100000) (hok : Okc st op) : Fc Tryz.prog 98 #[.pointer (some ⟨pc, 0, none⟩), .int .u8 want] w (fun r w' => ∃ k vs' st' b', r = .int .u8 k ∧ Is (popS ⟨st, op, b⟩ want) (⟨st', op, b'⟩, k) ∧ Okc st' op ∧ st'.length ≤ st.length ∧ Sat g w' (Pt pc [m.vt, m.vm, m.vf, .int .i64 m.table, .int .i64 m.pages, .int .i64 m.most, m.vg, m.vx, .int .i64 m.start, m.ve, m.vd, vl, vs', vo, .int .i64 b'] 131 :: Sl 98 1 enK vs' st' :: Sl 136 5 enPt vo op :: l)) := by
  obtain ⟨p, hp⟩ : ∃ p, op[op.length - 1]? = some p := ⟨_, List.getElem?_eq_getElem (by omega)⟩
  have hle := hok.le p hp
  refine Fc.of Tryz.func98 rfl (by kernel_rfl) ?_
  refine cI (fun c1 => ?_) (fun c1 => ?_)
  · replace c1 := vEq_t (c1)
    refine Done.mk ?_
    refine ⟨want, vs, st, b, ?_⟩
    refine ⟨?_, ?_⟩
    · refine int_eq ?_
      omega
    refine ⟨?_, ?_⟩
    · exact pop1 (by assumption)
    refine ⟨?_, ?_⟩
    · assumption
    refine ⟨?_, ?_⟩
    · omega
    exact H
  replace c1 := vEq_f (c1)
  refine CallP.mk (Fc.imp (Go.Proofs.YtndhikahjmgamaaGreatDoor.Valid.top H _ hp ?_ ?_) ?_)
  · assumption
  · assumption
  clear H
  rintro _ w1 ⟨b01, ⟨o01, ⟨rfl, ⟨h1, H⟩⟩⟩⟩
  refine drawzS H [] [(0, .pure), (1, .pure), (2, .pure), (3, .held), (4, .pure), (5, .pure), (6, .pure), (7, .pure), (8, .held), (9, .pure)] mixed (by kernel_rfl) (by kernel_rfl) ?_
  clear H
  intro w2 H
  clear w1
  refine tk (fun wx HS => rFieldAt rfl ⟨rfl, rfl⟩) ?_
  refine tk (fun wx HS => rLd (HS.at 0 rfl) 12 rfl rfl rfl ⟨rfl, rfl⟩) ?_
  obtain ⟨a1, c2, V1⟩ := H.form 1 rfl
  refine tk (fun wx HS => rLenV V1 rfl ⟨rfl, rfl⟩) ?_
  refine tk (fun wx HS => rFieldAt rfl ⟨rfl, rfl⟩) ?_
  refine tk (fun wx HS => rLd (HS.el 2 rfl h1 hp) 2 rfl rfl rfl ⟨rfl, rfl⟩) ?_
  refine cI (fun c3 => ?_) (fun c3 => ?_)
  · replace c3 := vEq_t (c3)
    refine rFieldAt rfl ?_
    refine rLd (H.el 2 rfl h1 hp) 3 rfl rfl rfl ?_
    refine cI (fun c4 => ?_) (fun c4 => ?_)
    · replace c4 := not_t (c4)
      refine CallP.mk (Fc.imp (Go.Proofs.YtndhikahjmgamaaGreatDoor.Valid.fail H _) ?_)
      clear H
      rintro v' w1 ⟨b'1, ⟨h2, H⟩⟩
      refine Done.mk ?_
      refine ⟨want, vs, st, b'1, ?_⟩
      refine ⟨?_, ?_⟩
      · refine int_eq ?_
        omega
      refine ⟨?_, ?_⟩
      · exact pop3 (by assumption) hp (by omega) (by assumption) (by assumption)
      refine ⟨?_, ?_⟩
      · assumption
      refine ⟨?_, ?_⟩
      · omega
      exact H
    replace c4 := not_f (c4)
    refine Done.mk ?_
    refine ⟨want, vs, st, b, ?_⟩
    refine ⟨?_, ?_⟩
    · refine int_eq ?_
      omega
    refine ⟨?_, ?_⟩
    · exact pop2 (by assumption) hp (by omega) (by assumption)
    refine ⟨?_, ?_⟩
    · assumption
    refine ⟨?_, ?_⟩
    · omega
    exact H
  replace c3 := vEq_f (c3)
  refine drawzS H [] [(0, .pure), (1, .pure), (2, .pure), (3, .held), (4, .pure), (5, .pure), (6, .pure), (7, .held), (8, .pure), (9, .pure), (10, .pure), (11, .held), (12, .pure)] mixed (by kernel_rfl) (by kernel_rfl) ?_
  clear H
  intro w1 H
  clear w2
  refine tk (fun wx HS => rFieldAt rfl ⟨rfl, rfl⟩) ?_
  refine tk (fun wx HS => rLd (HS.at 0 rfl) 12 rfl rfl rfl ⟨rfl, rfl⟩) ?_
  refine tk (fun wx HS => rFieldAt rfl ⟨rfl, rfl⟩) ?_
  refine tk (fun wx HS => rLd (HS.at 0 rfl) 12 rfl rfl rfl ⟨rfl, rfl⟩) ?_
  refine tk (fun wx HS => rLenV V1 rfl ⟨rfl, rfl⟩) ?_
  refine eqI64 (by omega) ?_
  obtain ⟨x1, hx1⟩ : ∃ x, (st)[((st.length) - 1)]? = some x := ⟨_, List.getElem?_eq_getElem (by omega)⟩
  obtain ⟨b1, o1, E1⟩ := H.elt 1 rfl ((st.length) - 1) (by omega)
  refine tk (fun wx HS => rIxE E1 (by omega) rfl rfl ⟨rfl, rfl⟩) ?_
  refine tk (fun wx HS => rLd (HS.el 1 rfl E1 hx1) 0 rfl rfl rfl ⟨rfl, rfl⟩) ?_
  refine drawzS H [] [(0, .pure), (1, .pure), (2, .pure), (3, .pure), (4, .held), (5, .pure), (6, .pure), (7, .pure), (8, .held), (9, .pure), (10, .pure), (11, .pure), (12, .pure), (13, .pure), (14, .free)] mixed (by kernel_rfl) (by kernel_rfl) ?_
  clear H
  intro w2 H
  clear w1
  refine tk (fun wx HS => rFieldAt rfl ⟨rfl, rfl⟩) ?_
  refine tk (fun wx HS => rLd (HS.at 0 rfl) 12 rfl rfl rfl ⟨rfl, rfl⟩) ?_
  refine tk (fun wx HS => rFieldAt rfl ⟨rfl, rfl⟩) ?_
  refine tk (fun wx HS => rLd (HS.at 0 rfl) 12 rfl rfl rfl ⟨rfl, rfl⟩) ?_
  refine tk (fun wx HS => rLenV V1 rfl ⟨rfl, rfl⟩) ?_
  refine eqI64 (by omega) ?_
  obtain ⟨v1, V2⟩ := H.vw 1 rfl (0) (((st.length) - 1)) (by omega) (by omega)
  refine tk (fun wx HS => rSlVw V2 rfl rfl (.inl ⟨rfl, rfl⟩) (.inr ⟨_, by first | rfl | (congr 2; omega)⟩) ⟨rfl, rfl⟩) ?_
  refine tk (fun wx HS => rFieldAt rfl ⟨rfl, rfl⟩) ?_
  refine rStS H 0 rfl rfl rfl (by simp only [Bool.and_true, H.one 1 rfl, H.one 2 rfl, Vw.one V2]) ?_
  clear H
  intro w1 H
  clear w2
  replace H := H.ofVw 1 rfl V2
  simp only [List.set_cons_succ, List.set_cons_zero] at H
  refine bk ?_
  refine cI (fun c4 => ?_) (fun c4 => ?_)
  · replace c4 := vEq_t (c4)
    refine Done.mk ?_
    refine ⟨want, v1, List.take (st.length - 1) st, b, ?_⟩
    refine ⟨?_, ?_⟩
    · refine int_eq ?_
      omega
    refine ⟨?_, ?_⟩
    · exact pop4 (by assumption) hp (by omega) hx1 (by assumption)
    refine ⟨?_, ?_⟩
    · exact hok.fewer hp (by simp only [List.length_take]; omega)
    refine ⟨?_, ?_⟩
    · (simp only [List.length_take]; omega)
    exact H
  replace c4 := vEq_f (c4)
  refine br (fun c5 => ?_) (fun c5 => ?_)
  · replace c5 := vNe_t (c5)
    refine cI (fun c6 => ?_) (fun c6 => ?_)
    · replace c6 := vNe_t (c6)
      refine CallP.mk (Fc.imp (Go.Proofs.YtndhikahjmgamaaGreatDoor.Valid.fail H _) ?_)
      clear H
      rintro v' w2 ⟨b'1, ⟨h2, H⟩⟩
      refine Done.mk ?_
      refine ⟨x1, v1, List.take (st.length - 1) st, b'1, ?_⟩
      refine ⟨?_, ?_⟩
      · refine int_eq ?_
        omega
      refine ⟨?_, ?_⟩
      · exact pop5 (by assumption) hp (by omega) hx1 (by assumption) (by assumption) (by assumption) (by assumption)
      refine ⟨?_, ?_⟩
      · exact hok.fewer hp (by simp only [List.length_take]; omega)
      refine ⟨?_, ?_⟩
      · (simp only [List.length_take]; omega)
      exact H
    replace c6 := vNe_f (c6)
    refine Done.mk ?_
    refine ⟨x1, v1, List.take (st.length - 1) st, b, ?_⟩
    refine ⟨?_, ?_⟩
    · refine int_eq ?_
      omega
    refine ⟨?_, ?_⟩
    · exact pop6 (by assumption) hp (by omega) hx1 (by assumption) (by omega)
    refine ⟨?_, ?_⟩
    · exact hok.fewer hp (by simp only [List.length_take]; omega)
    refine ⟨?_, ?_⟩
    · (simp only [List.length_take]; omega)
    exact H
  replace c5 := vNe_f (c5)
  refine cF rfl ?_
  refine Done.mk ?_
  refine ⟨x1, v1, List.take (st.length - 1) st, b, ?_⟩
  refine ⟨?_, ?_⟩
  · refine int_eq ?_
    omega
  refine ⟨?_, ?_⟩
  · exact pop6 (by assumption) hp (by omega) hx1 (by assumption) (by omega)
  refine ⟨?_, ?_⟩
  · exact hok.fewer hp (by simp only [List.length_take]; omega)
  refine ⟨?_, ?_⟩
  · (simp only [List.length_take]; omega)
  exact H

end
end Go.Proofs.YtndhikahjmgamaaGreatDoor.Valid
/- Package valid: the checker's methods begin, die, close, out. -/
set_option maxRecDepth 100000
set_option maxHeartbeats 4000000
set_option linter.unusedVariables false
set_option linter.unusedSimpArgs false
namespace Go.Proofs.YtndhikahjmgamaaGreatDoor.Valid
open Go Go.Proofs.YtndhikahjmgamaaGreatDoor.Eng Go.RowKit
open Ins Nest Leb Bin
section
variable {g : Glob} {w : World} {l : List As} {pc : Nat} {m : ModV} {vl vs vo : Value} {st : List Int} {op : List PartD} {b : Int}
theorem underS_nil {st : List Int} {b : Int} : underS ⟨st, [], b⟩ = false := if_pos rfl
theorem underS_of {p : PartD} (hp : op[op.length - 1]? = some p) : underS ⟨st, op, b⟩ = (p.dead || p.under) := by
  have hne : op ≠ [] := by intro h; rw [h] at hp; cases hp
  unfold underS
  rw [if_neg hne, topS_of hp]
theorem begin1 {o k : Int} {u : Bool} (h : underS ⟨st, op, b⟩ = u) : Is (beginS ⟨st, op, b⟩ o k) ⟨st, op ++ [⟨o, k, st.length, false, u⟩], b⟩ := by
  unfold Is beginS; rw [h]
theorem begin_ (H : Sat g w (Pt pc [m.vt, m.vm, m.vf, .int .i64 m.table, .int .i64 m.pages, .int .i64 m.most, m.vg, m.vx, .int .i64 m.start, m.ve, m.vd, vl, vs, vo, .int .i64 b] 131 :: Sl 98 1 enK vs st :: Sl 136 5 enPt vo op :: l)) (o k : Int) (hop : op.length ≤ 100) (hst : st.length ≤ 100000) (hok : Okc st op) : Fc Tryz.prog 59 #[.pointer (some ⟨pc, 0, none⟩), .int .u8 o, .int .u8 k] w (fun r w' => ∃ vo' op', Is (beginS ⟨st, op, b⟩ o k) ⟨st, op', b⟩ ∧ Okc st op' ∧ op'.length = op.length + 1 ∧ Sat g w' (Pt pc [m.vt, m.vm, m.vf, .int .i64 m.table, .int .i64 m.pages, .int .i64 m.most, m.vg, m.vx, .int .i64 m.start, m.ve, m.vd, vl, vs, vo', .int .i64 b] 131 :: Sl 98 1 enK vs st :: Sl 136 5 enPt vo' op' :: l)) := by
  rcases Nat.eq_zero_or_pos op.length with h0 | h0
  · obtain rfl := List.eq_nil_of_length_eq_zero h0
    refine Fc.of Tryz.func59 rfl (by kernel_rfl) ?_
    refine rFieldAt rfl ?_
    refine rLd (H.at 0 rfl) 13 rfl rfl rfl ?_
    refine rLenS H 2 rfl rfl ?_
    refine cF (vLt_F (by omega)) ?_
    refine drawzS H [] [(0, .pure), (1, .pure), (2, .pure), (3, .pure), (4, .held), (5, .pure), (6, .pure), (7, .pure), (8, .pure), (9, .pure), (10, .held), (11, .pure), (12, .pure), (13, .pure), (14, .forced), (15, .free), (16, .pure), (17, .pure), (18, .free)] mixed (by kernel_rfl) (by kernel_rfl) ?_
    clear H
    intro w1 H
    refine tk (fun wx HS => rFieldAt rfl ⟨rfl, rfl⟩) ?_
    refine tk (fun wx HS => rLd (HS.at 0 rfl) 13 rfl rfl rfl ⟨rfl, rfl⟩) ?_
    refine tk (fun wx HS => rFieldAt rfl ⟨rfl, rfl⟩) ?_
    refine tk (fun wx HS => rLd (HS.at 0 rfl) 12 rfl rfl rfl ⟨rfl, rfl⟩) ?_
    obtain ⟨a1, c1, V1⟩ := H.form 1 rfl
    refine tk (fun wx HS => rLenV V1 rfl ⟨rfl, rfl⟩) ?_
    refine tk (fun wx HS => rBuild rfl rfl rfl ⟨rfl, rfl⟩) ?_
    refine rBuildSliceS H rfl rfl rfl rfl ?_
    clear H
    intro p1 w2 H
    clear w1
    refine KeepP.mk (H.drop 0 (fun H => H)) ?_
    refine rApS (ys := [⟨_, _, _, _, _⟩]) 24 H 3 rfl (H.at 0 rfl) rfl (fun y _ => rfl) rfl rfl rfl (by omega) (by omega) ?_
    intro v1
    clear H
    intro w1 H
    clear w2
    refine tk (fun wx HS => rFieldAt rfl ⟨rfl, rfl⟩) ?_
    refine rStS H 1 rfl rfl rfl (H.one 3 rfl) ?_
    clear H
    intro w2 H
    clear w1
    refine Done.mk ?_
    refine ⟨v1, [] ++ [{ op := o, kind := k, base := st.length, dead := false, under := false }], ?_⟩
    refine ⟨?_, ?_⟩
    · exact begin1 underS_nil
    refine ⟨?_, ?_⟩
    · exact hok.begin_ _ _ _ _
    refine ⟨?_, ?_⟩
    · rfl
    refine H.fronts [3, 3, 3] ?_
    clear H
    intro H
    refine H.drop 3 ?_
    clear H
    intro H
    exact H
  · obtain ⟨p, hp⟩ : ∃ p, op[op.length - 1]? = some p := ⟨_, List.getElem?_eq_getElem (by omega)⟩
    have hu := underS_of (st := st) (b := b) hp
    cases hd : p.dead
    · rw [hd] at hu
      refine Fc.of Tryz.func59 rfl (by kernel_rfl) ?_
      refine rFieldAt rfl ?_
      refine rLd (H.at 0 rfl) 13 rfl rfl rfl ?_
      refine rLenS H 2 rfl rfl ?_
      refine cT (vLt_T (by omega)) ?_
      refine CallP.mk (Fc.imp (Go.Proofs.YtndhikahjmgamaaGreatDoor.Valid.top H _ hp ?_ ?_) ?_)
      · assumption
      · assumption
      clear H
      rintro _ w1 ⟨b01, ⟨o01, ⟨rfl, ⟨h1, H⟩⟩⟩⟩
      refine rFieldAt rfl ?_
      refine rLd (H.el 2 rfl h1 hp) 3 rfl rfl rfl ?_
      refine br_f ((by assumption)) ?_
      refine CallP.mk (Fc.imp (Go.Proofs.YtndhikahjmgamaaGreatDoor.Valid.top H _ hp ?_ ?_) ?_)
      · assumption
      · assumption
      clear H
      rintro _ w2 ⟨b02, ⟨o02, ⟨rfl, ⟨h2, H⟩⟩⟩⟩
      refine rFieldAt rfl ?_
      refine rLd (H.el 2 rfl h2 hp) 4 rfl rfl rfl ?_
      refine drawzS H [] [(0, .pure), (1, .pure), (2, .pure), (3, .pure), (4, .held), (5, .pure), (6, .pure), (7, .pure), (8, .pure), (9, .pure), (10, .held), (11, .pure), (12, .pure), (13, .pure), (14, .forced), (15, .free), (16, .pure), (17, .pure), (18, .free)] mixed (by kernel_rfl) (by kernel_rfl) ?_
      clear H
      intro w3 H
      clear w2
      refine tk (fun wx HS => rFieldAt rfl ⟨rfl, rfl⟩) ?_
      refine tk (fun wx HS => rLd (HS.at 0 rfl) 13 rfl rfl rfl ⟨rfl, rfl⟩) ?_
      refine tk (fun wx HS => rFieldAt rfl ⟨rfl, rfl⟩) ?_
      refine tk (fun wx HS => rLd (HS.at 0 rfl) 12 rfl rfl rfl ⟨rfl, rfl⟩) ?_
      obtain ⟨a1, c1, V1⟩ := H.form 1 rfl
      refine tk (fun wx HS => rLenV V1 rfl ⟨rfl, rfl⟩) ?_
      refine tk (fun wx HS => rBuild rfl rfl rfl ⟨rfl, rfl⟩) ?_
      refine rBuildSliceS H rfl rfl rfl rfl ?_
      clear H
      intro p1 w2 H
      clear w3
      refine KeepP.mk (H.drop 0 (fun H => H)) ?_
      refine rApS (ys := [⟨_, _, _, _, _⟩]) 24 H 3 rfl (H.at 0 rfl) rfl (fun y _ => rfl) rfl rfl rfl (by omega) (by omega) ?_
      intro v1
      clear H
      intro w3 H
      clear w2
      refine tk (fun wx HS => rFieldAt rfl ⟨rfl, rfl⟩) ?_
      refine rStS H 1 rfl rfl rfl (H.one 3 rfl) ?_
      clear H
      intro w2 H
      clear w3
      refine Done.mk ?_
      refine ⟨v1, op ++ [{ op := o, kind := k, base := st.length, dead := false, under := p.5 }], ?_⟩
      refine ⟨?_, ?_⟩
      · exact begin1 hu
      refine ⟨?_, ?_⟩
      · exact hok.begin_ _ _ _ _
      refine ⟨?_, ?_⟩
      · (simp; done)
      refine H.fronts [3, 3, 3] ?_
      clear H
      intro H
      refine H.drop 3 ?_
      clear H
      intro H
      exact H
    · rw [hd] at hu
      refine Fc.of Tryz.func59 rfl (by kernel_rfl) ?_
      refine rFieldAt rfl ?_
      refine rLd (H.at 0 rfl) 13 rfl rfl rfl ?_
      refine rLenS H 2 rfl rfl ?_
      refine cT (vLt_T (by omega)) ?_
      refine CallP.mk (Fc.imp (Go.Proofs.YtndhikahjmgamaaGreatDoor.Valid.top H _ hp ?_ ?_) ?_)
      · assumption
      · assumption
      clear H
      rintro _ w1 ⟨b01, ⟨o01, ⟨rfl, ⟨h1, H⟩⟩⟩⟩
      refine rFieldAt rfl ?_
      refine rLd (H.el 2 rfl h1 hp) 3 rfl rfl rfl ?_
      refine br_t ((by assumption)) ?_
      refine drawzS H [] [(0, .pure), (1, .pure), (2, .pure), (3, .pure), (4, .held), (5, .pure), (6, .pure), (7, .pure), (8, .pure), (9, .pure), (10, .held), (11, .pure), (12, .pure), (13, .pure), (14, .forced), (15, .free), (16, .pure), (17, .pure), (18, .free)] mixed (by kernel_rfl) (by kernel_rfl) ?_
      clear H
      intro w2 H
      clear w1
      refine tk (fun wx HS => rFieldAt rfl ⟨rfl, rfl⟩) ?_
      refine tk (fun wx HS => rLd (HS.at 0 rfl) 13 rfl rfl rfl ⟨rfl, rfl⟩) ?_
      refine tk (fun wx HS => rFieldAt rfl ⟨rfl, rfl⟩) ?_
      refine tk (fun wx HS => rLd (HS.at 0 rfl) 12 rfl rfl rfl ⟨rfl, rfl⟩) ?_
      obtain ⟨a1, c1, V1⟩ := H.form 1 rfl
      refine tk (fun wx HS => rLenV V1 rfl ⟨rfl, rfl⟩) ?_
      refine tk (fun wx HS => rBuild rfl rfl rfl ⟨rfl, rfl⟩) ?_
      refine rBuildSliceS H rfl rfl rfl rfl ?_
      clear H
      intro p1 w1 H
      clear w2
      refine KeepP.mk (H.drop 0 (fun H => H)) ?_
      refine rApS (ys := [⟨_, _, _, _, _⟩]) 24 H 3 rfl (H.at 0 rfl) rfl (fun y _ => rfl) rfl rfl rfl (by omega) (by omega) ?_
      intro v1
      clear H
      intro w2 H
      clear w1
      refine tk (fun wx HS => rFieldAt rfl ⟨rfl, rfl⟩) ?_
      refine rStS H 1 rfl rfl rfl (H.one 3 rfl) ?_
      clear H
      intro w1 H
      clear w2
      refine Done.mk ?_
      refine ⟨v1, op ++ [{ op := o, kind := k, base := st.length, dead := false, under := true }], ?_⟩
      refine ⟨?_, ?_⟩
      · exact begin1 hu
      refine ⟨?_, ?_⟩
      · exact hok.begin_ _ _ _ _
      refine ⟨?_, ?_⟩
      · (simp; done)
      refine H.fronts [3, 3, 3] ?_
      clear H
      intro H
      refine H.drop 3 ?_
      clear H
      intro H
      exact H
theorem die1 {p : PartD} (hp : op[op.length - 1]? = some p) : Is (dieS ⟨st, op, b⟩) ⟨st.take p.base, op.set (op.length - 1) ⟨p.op, p.kind, p.base, true, p.under⟩, b⟩ := by
  unfold Is dieS; rw [topS_of hp]
theorem die (H : Sat g w (Pt pc [m.vt, m.vm, m.vf, .int .i64 m.table, .int .i64 m.pages, .int .i64 m.most, m.vg, m.vx, .int .i64 m.start, m.ve, m.vd, vl, vs, vo, .int .i64 b] 131 :: Sl 98 1 enK vs st :: Sl 136 5 enPt vo op :: l)) (hn : 0 < op.length) (hop : op.length ≤ 100) (hst : st.length ≤ 100000) (hok : Okc st op) : Fc Tryz.prog 128 #[.pointer (some ⟨pc, 0, none⟩)] w (fun r w' => ∃ vs' st' op', Is (dieS ⟨st, op, b⟩) ⟨st', op', b⟩ ∧ Okc st' op' ∧ st'.length ≤ st.length ∧ op'.length = op.length ∧ Sat g w' (Pt pc [m.vt, m.vm, m.vf, .int .i64 m.table, .int .i64 m.pages, .int .i64 m.most, m.vg, m.vx, .int .i64 m.start, m.ve, m.vd, vl, vs', vo, .int .i64 b] 131 :: Sl 98 1 enK vs' st' :: Sl 136 5 enPt vo op' :: l)) := by
  obtain ⟨p, hp⟩ : ∃ p, op[op.length - 1]? = some p := ⟨_, List.getElem?_eq_getElem (by omega)⟩
  have hle := hok.le p hp
  refine Fc.of Tryz.func128 rfl (by kernel_rfl) ?_
  refine CallP.mk (Fc.imp (Go.Proofs.YtndhikahjmgamaaGreatDoor.Valid.top H _ hp ?_ ?_) ?_)
  · assumption
  · assumption
  clear H
  rintro _ w1 ⟨b01, ⟨o01, ⟨rfl, ⟨h1, H⟩⟩⟩⟩
  refine drawzS H [] [(0, .pure), (1, .pure), (2, .pure), (3, .pure), (4, .held), (5, .pure), (6, .pure), (7, .pure), (8, .held), (9, .pure), (10, .pure), (11, .pure), (12, .free)] mixed (by kernel_rfl) (by kernel_rfl) ?_
  clear H
  intro w2 H
  clear w1
  refine tk (fun wx HS => rFieldAt rfl ⟨rfl, rfl⟩) ?_
  refine tk (fun wx HS => rLd (HS.at 0 rfl) 12 rfl rfl rfl ⟨rfl, rfl⟩) ?_
  refine tk (fun wx HS => rFieldAt rfl ⟨rfl, rfl⟩) ?_
  refine tk (fun wx HS => rLd (HS.el 2 rfl h1 hp) 2 rfl rfl rfl ⟨rfl, rfl⟩) ?_
  obtain ⟨v1, V1⟩ := H.vw 1 rfl (0) ((p.base)) (by omega) (by omega)
  refine tk (fun wx HS => rSlVw V1 rfl rfl (.inl ⟨rfl, rfl⟩) (.inr ⟨_, by first | rfl | (congr 2; omega)⟩) ⟨rfl, rfl⟩) ?_
  refine tk (fun wx HS => rFieldAt rfl ⟨rfl, rfl⟩) ?_
  refine rStS H 0 rfl rfl rfl (by simp only [Bool.and_true, H.one 1 rfl, H.one 2 rfl, Vw.one V1]) ?_
  clear H
  intro w1 H
  clear w2
  refine rFieldAt rfl ?_
  refine rStE H 2 rfl h1 hp 3 ⟨p.op, p.kind, p.base, true, p.under⟩ rfl rfl rfl rfl ?_
  clear H
  intro w2 H
  replace H := H.ofVw 1 rfl V1
  simp only [List.set_cons_succ, List.set_cons_zero] at H
  refine Done.mk ?_
  refine ⟨v1, List.take p.base st, op.set (op.length - 1) { op := p.op, kind := p.kind, base := p.base, dead := true, under := p.under }, ?_⟩
  refine ⟨?_, ?_⟩
  · exact die1 hp
  refine ⟨?_, ?_⟩
  · exact (hok.fewer hp (by simp only [List.length_take]; omega)).same hp rfl
  refine ⟨?_, ?_⟩
  · (simp only [List.length_take]; omega)
  refine ⟨?_, ?_⟩
  · exact List.length_set
  exact H

end
end Go.Proofs.YtndhikahjmgamaaGreatDoor.Valid
/- Package valid: the checker's methods out, close, way, takes, gives, choose, table. -/
set_option maxRecDepth 100000
set_option maxHeartbeats 4000000
set_option linter.unusedVariables false
set_option linter.unusedSimpArgs false
namespace Go.Proofs.YtndhikahjmgamaaGreatDoor.Valid
open Go Go.Proofs.YtndhikahjmgamaaGreatDoor.Eng Go.RowKit
open Ins Nest Leb Bin
section
variable {g : Glob} {w : World} {l : List As} {pc : Nat} {m : ModV} {vl vs vo : Value} {st : List Int} {op : List PartD} {b : Int}
theorem along (p : PartD) (w : World) : Fc Tryz.prog 134 #[.agg #[.int .u8 p.op, .int .u8 p.kind, .int .i64 (p.base : Int), .bool p.dead, .bool p.under]] w (fun v w' => (∃ k, v = .int .u8 k ∧ k = alongS p) ∧ Sat (froz w) w' []) := by
  refine Fc.of Tryz.func134 rfl (by kernel_rfl) ?_
  have H := Sat.start w
  refine rBoxS H ?_
  clear H
  intro p1 w1 H
  refine rFieldAt rfl ?_
  refine rLd (H.at 0 rfl) 0 rfl rfl rfl ?_
  refine cI (fun c1 => ?_) (fun c1 => ?_)
  · replace c1 := vEq_t (c1)
    refine Done.mk ?_
    refine ⟨?_, ?_⟩
    · refine ⟨64, ?_⟩
      refine ⟨?_, ?_⟩
      · refine int_eq ?_
        omega
      exact (if_pos (by assumption)).symm
    refine H.firsts 0 ?_
    clear H
    intro H
    exact H
  replace c1 := vEq_f (c1)
  refine rFieldAt rfl ?_
  refine rLd (H.at 0 rfl) 1 rfl rfl rfl ?_
  refine Done.mk ?_
  refine ⟨?_, ?_⟩
  · refine ⟨p.kind, ?_⟩
    refine ⟨?_, ?_⟩
    · refine int_eq ?_
      omega
    exact (if_neg (by assumption)).symm
  refine H.firsts 0 ?_
  clear H
  intro H
  exact H
theorem out1 {n b' : Int} (h : (op.length : Int) ≤ n) (hf : Is (failS ⟨st, op, b⟩ 8) ⟨st, op, b'⟩) : Is (outS ⟨st, op, b⟩ n) (⟨st, op, b'⟩, pz) := by
  unfold Is at *; unfold outS; rw [if_pos h, ← hf]
theorem out2 {k : Nat} {p : PartD} (h : k < op.length) (hp : op[op.length - 1 - k]? = some p) : Is (outS ⟨st, op, b⟩ (k : Int)) (⟨st, op, b⟩, p) := by
  unfold Is outS
  rw [if_neg (by simp only; omega)]
  simp only [Int.toNat_natCast]
  rw [List.getD_eq_getElem?_getD, hp]; rfl
theorem out (H : Sat g w (Pt pc [m.vt, m.vm, m.vf, .int .i64 m.table, .int .i64 m.pages, .int .i64 m.most, m.vg, m.vx, .int .i64 m.start, m.ve, m.vd, vl, vs, vo, .int .i64 b] 131 :: Sl 98 1 enK vs st :: Sl 136 5 enPt vo op :: l)) (n : Int) (h0 : 0 ≤ n ∧ n ≤ 9223372036854775807) (hop : op.length ≤ 100) : Fc Tryz.prog 133 #[.pointer (some ⟨pc, 0, none⟩), .int .i64 n] w (fun r w' => ∃ b' p, r = .agg #[.int .u8 p.op, .int .u8 p.kind, .int .i64 (p.base : Int), .bool p.dead, .bool p.under] ∧ Is (outS ⟨st, op, b⟩ n) (⟨st, op, b'⟩, p) ∧ Sat g w' (Pt pc [m.vt, m.vm, m.vf, .int .i64 m.table, .int .i64 m.pages, .int .i64 m.most, m.vg, m.vx, .int .i64 m.start, m.ve, m.vd, vl, vs, vo, .int .i64 b'] 131 :: Sl 98 1 enK vs st :: Sl 136 5 enPt vo op :: l)) := by
  obtain ⟨k, rfl⟩ : ∃ k : Nat, n = k := ⟨n.toNat, by omega⟩
  refine Fc.of Tryz.func133 rfl (by kernel_rfl) ?_
  rcases Nat.lt_or_ge k op.length with hk | hk
  · obtain ⟨p, hp⟩ : ∃ p, op[op.length - 1 - k]? = some p := ⟨_, List.getElem?_eq_getElem (by omega)⟩
    refine rAllocS H rfl ?_
    clear H
    intro p1 w1 H
    refine rFieldAt rfl ?_
    refine rLd (H.at 1 rfl) 13 rfl rfl rfl ?_
    refine rLenS H 3 rfl rfl ?_
    refine cF (vLe_F (by omega)) ?_
    refine drawzS H [] [(0, .pure), (1, .pure), (2, .pure), (3, .held), (4, .pure), (5, .pure), (6, .pure), (7, .held), (8, .pure), (9, .pure), (10, .pure), (11, .pure), (12, .pure), (13, .held), (14, .free)] mixed (by kernel_rfl) (by kernel_rfl) ?_
    clear H
    intro w2 H
    clear w1
    refine tk (fun wx HS => rFieldAt rfl ⟨rfl, rfl⟩) ?_
    refine tk (fun wx HS => rLd (HS.at 1 rfl) 13 rfl rfl rfl ⟨rfl, rfl⟩) ?_
    refine tk (fun wx HS => rFieldAt rfl ⟨rfl, rfl⟩) ?_
    refine tk (fun wx HS => rLd (HS.at 1 rfl) 13 rfl rfl rfl ⟨rfl, rfl⟩) ?_
    obtain ⟨a1, c1, V1⟩ := H.form 3 rfl
    refine tk (fun wx HS => rLenV V1 rfl ⟨rfl, rfl⟩) ?_
    refine eqI64 (by omega) ?_
    refine eqI64 (by omega) ?_
    obtain ⟨b1, o1, E1⟩ := H.elt 3 rfl (((op.length) - 1) - (k)) (by omega)
    refine tk (fun wx HS => rIxE E1 (by omega) rfl rfl ⟨rfl, rfl⟩) ?_
    refine tk (fun wx HS => rLdA (HS.el 3 rfl E1 hp) 0 rfl rfl rfl ⟨rfl, rfl⟩) ?_
    refine rStAS H 0 rfl rfl rfl rfl ?_
    clear H
    intro w1 H
    clear w2
    refine rdAN (H.at 0 rfl) 0 rfl rfl rfl ?_
    exact Done.mk ⟨_, p, rfl, out2 hk hp, H.del 0⟩
  · refine rAllocS H rfl ?_
    clear H
    intro p1 w1 H
    refine rFieldAt rfl ?_
    refine rLd (H.at 1 rfl) 13 rfl rfl rfl ?_
    refine rLenS H 3 rfl rfl ?_
    refine cT (vLe_T (by omega)) ?_
    refine H.fronts [3, 3, 3] ?_
    clear H
    intro H
    refine CallP.mk (Fc.imp (Go.Proofs.YtndhikahjmgamaaGreatDoor.Valid.fail H _) ?_)
    clear H
    rintro v' w2 ⟨b'1, ⟨h1, H⟩⟩
    refine rBuild rfl rfl rfl ?_
    refine rStAS H 3 rfl rfl rfl rfl ?_
    clear H
    intro w3 H
    clear w2
    refine rdAN (H.at 3 rfl) 0 rfl rfl rfl ?_
    exact Done.mk ⟨_, pz, rfl, out1 (by omega) (by assumption), H.del 3⟩

theorem close1 {p : PartD} {k : Int} {st' : List Int} {b' : Int} (hp : op[op.length - 1]? = some p) (h : Is (popS ⟨st, op, b⟩ p.kind) (⟨st', op, b'⟩, k)) (hl : st'.length = p.base) : Is (closeS ⟨st, op, b⟩) ⟨st', op, b'⟩ := by
  unfold Is at *
  unfold closeS
  rw [topS_of hp, ← h]
  simp only
  rw [if_neg (fun n => n hl)]
theorem close2 {p : PartD} {k : Int} {st' : List Int} {b' b'' : Int} (hp : op[op.length - 1]? = some p) (h : Is (popS ⟨st, op, b⟩ p.kind) (⟨st', op, b'⟩, k)) (hl : st'.length ≠ p.base) (hf : Is (failS ⟨st', op, b'⟩ 10) ⟨st', op, b''⟩) : Is (closeS ⟨st, op, b⟩) ⟨st', op, b''⟩ := by
  unfold Is at *
  unfold closeS
  rw [topS_of hp, ← h]
  simp only
  rw [if_pos hl, ← hf]
theorem close (H : Sat g w (Pt pc [m.vt, m.vm, m.vf, .int .i64 m.table, .int .i64 m.pages, .int .i64 m.most, m.vg, m.vx, .int .i64 m.start, m.ve, m.vd, vl, vs, vo, .int .i64 b] 131 :: Sl 98 1 enK vs st :: Sl 136 5 enPt vo op :: l)) (p : PartD) (hp : op[op.length - 1]? = some p) (hn : 0 < op.length) (hop : op.length ≤ 100) (hst : st.length ≤ 100000) (hok : Okc st op) : Fc Tryz.prog 129 #[.pointer (some ⟨pc, 0, none⟩)] w (fun r w' => ∃ vs' st' b', r = .agg #[.int .u8 p.op, .int .u8 p.kind, .int .i64 (p.base : Int), .bool p.dead, .bool p.under] ∧ Is (closeS ⟨st, op, b⟩) ⟨st', op, b'⟩ ∧ Okc st' op ∧ st'.length ≤ st.length ∧ Sat g w' (Pt pc [m.vt, m.vm, m.vf, .int .i64 m.table, .int .i64 m.pages, .int .i64 m.most, m.vg, m.vx, .int .i64 m.start, m.ve, m.vd, vl, vs', vo, .int .i64 b'] 131 :: Sl 98 1 enK vs' st' :: Sl 136 5 enPt vo op :: l)) := by
  refine Fc.of Tryz.func129 rfl (by kernel_rfl) ?_
  refine rAllocS H rfl ?_
  clear H
  intro p1 w1 H
  refine H.fronts [3, 3, 3] ?_
  clear H
  intro H
  refine CallP.mk (Fc.imp (Go.Proofs.YtndhikahjmgamaaGreatDoor.Valid.top H _ hp ?_ ?_) ?_)
  · assumption
  · assumption
  clear H
  rintro _ w2 ⟨b01, ⟨o01, ⟨rfl, ⟨h1, H⟩⟩⟩⟩
  refine rLdA (H.el 2 rfl h1 hp) 0 rfl rfl rfl ?_
  refine rAllocS H rfl ?_
  clear H
  intro p2 w3 H
  clear w2
  refine rStAS H 0 rfl rfl rfl rfl ?_
  clear H
  intro w2 H
  clear w3
  refine rFieldAt rfl ?_
  refine rLd (H.at 0 rfl) 1 rfl rfl rfl ?_
  refine H.fronts [3, 3, 3] ?_
  clear H
  intro H
  refine CallP.mk (Fc.imp (Go.Proofs.YtndhikahjmgamaaGreatDoor.Valid.pop H _ ?_ ?_ ?_ ?_) ?_)
  · assumption
  · assumption
  · assumption
  · assumption
  clear H
  rintro _ w3 ⟨k1, ⟨vs'1, ⟨st'1, ⟨b'1, ⟨rfl, ⟨h2, ⟨h3, ⟨h4, H⟩⟩⟩⟩⟩⟩⟩⟩
  refine drawzS H [] [(0, .pure), (1, .pure), (2, .pure), (3, .held), (4, .pure), (5, .pure), (6, .held), (7, .pure)] mixed (by kernel_rfl) (by kernel_rfl) ?_
  clear H
  intro w4 H
  clear w3
  refine tk (fun wx HS => rFieldAt rfl ⟨rfl, rfl⟩) ?_
  refine tk (fun wx HS => rLd (HS.at 0 rfl) 12 rfl rfl rfl ⟨rfl, rfl⟩) ?_
  obtain ⟨a1, c1, V1⟩ := H.form 1 rfl
  refine tk (fun wx HS => rLenV V1 rfl ⟨rfl, rfl⟩) ?_
  refine tk (fun wx HS => rFieldAt rfl ⟨rfl, rfl⟩) ?_
  refine tk (fun wx HS => rLd (HS.at 3 rfl) 2 rfl rfl rfl ⟨rfl, rfl⟩) ?_
  refine cI (fun c2 => ?_) (fun c2 => ?_)
  · replace c2 := vNe_t (c2)
    refine CallP.mk (Fc.imp (Go.Proofs.YtndhikahjmgamaaGreatDoor.Valid.fail H _) ?_)
    clear H
    rintro v' w3 ⟨b'2, ⟨h5, H⟩⟩
    refine rLdA (H.at 3 rfl) 0 rfl rfl rfl ?_
    refine rStAS H 4 rfl rfl rfl rfl ?_
    clear H
    intro w5 H
    clear w3
    refine rdAN (H.at 4 rfl) 0 rfl rfl rfl ?_
    refine Done.mk ?_
    refine ⟨vs'1, st'1, b'2, ?_⟩
    refine ⟨?_, ?_⟩
    · rfl
    refine ⟨?_, ?_⟩
    · exact close2 hp (by assumption) (by omega) (by assumption)
    refine ⟨?_, ?_⟩
    · assumption
    refine ⟨?_, ?_⟩
    · assumption
    refine H.drop 4 ?_
    clear H
    intro H
    refine H.drop 3 ?_
    clear H
    intro H
    exact H
  replace c2 := vNe_f (c2)
  refine rLdA (H.at 3 rfl) 0 rfl rfl rfl ?_
  refine rStAS H 4 rfl rfl rfl rfl ?_
  clear H
  intro w3 H
  clear w4
  refine rdAN (H.at 4 rfl) 0 rfl rfl rfl ?_
  refine Done.mk ?_
  refine ⟨vs'1, st'1, b'1, ?_⟩
  refine ⟨?_, ?_⟩
  · rfl
  refine ⟨?_, ?_⟩
  · exact close1 hp (by assumption) (by omega)
  refine ⟨?_, ?_⟩
  · assumption
  refine ⟨?_, ?_⟩
  · assumption
  refine H.drop 4 ?_
  clear H
  intro H
  refine H.drop 3 ?_
  clear H
  intro H
  exact H
theorem way1 {a b' : Int} {p : PartD} (h : Is (outS ⟨st, op, b⟩ a) (⟨st, op, b'⟩, p)) (hb : b' ≠ 0) : Is (wayS ⟨st, op, b⟩ a) ⟨st, op, b'⟩ := by
  unfold Is at *
  unfold wayS
  rw [← h]
  exact (if_neg hb).symm
theorem way2 {a b' b'' k k' : Int} {p : PartD} {st' : List Int} (h : Is (outS ⟨st, op, b⟩ a) (⟨st, op, b'⟩, p)) (hk : k = alongS p) (hb : b' = 0) (h2 : Is (popS ⟨st, op, b'⟩ k) (⟨st', op, b''⟩, k')) : Is (wayS ⟨st, op, b⟩ a) ⟨st', op, b''⟩ := by
  unfold Is at *
  unfold wayS
  rw [← h]
  simp only
  rw [if_pos hb, ← hk, ← h2]
theorem way (H : Sat g w (Pt pc [m.vt, m.vm, m.vf, .int .i64 m.table, .int .i64 m.pages, .int .i64 m.most, m.vg, m.vx, .int .i64 m.start, m.ve, m.vd, vl, vs, vo, .int .i64 b] 131 :: Sl 98 1 enK vs st :: Sl 136 5 enPt vo op :: l)) (o a bb : Int) (tv : Value) (ha : 0 ≤ a ∧ a ≤ 9223372036854775807) (hn : 0 < op.length) (hop : op.length ≤ 100) (hst : st.length ≤ 100000) (hok : Okc st op) : Fc Tryz.prog 132 #[.pointer (some ⟨pc, 0, none⟩), .agg #[.int .u8 o, .int .i64 a, .int .i64 bb, tv]] w (fun r w' => ∃ vs' st' b', Is (wayS ⟨st, op, b⟩ a) ⟨st', op, b'⟩ ∧ Okc st' op ∧ st'.length ≤ st.length ∧ Sat g w' (Pt pc [m.vt, m.vm, m.vf, .int .i64 m.table, .int .i64 m.pages, .int .i64 m.most, m.vg, m.vx, .int .i64 m.start, m.ve, m.vd, vl, vs', vo, .int .i64 b'] 131 :: Sl 98 1 enK vs' st' :: Sl 136 5 enPt vo op :: l)) := by
  refine Fc.of Tryz.func132 rfl (by kernel_rfl) ?_
  refine rBoxS H ?_
  clear H
  intro p1 w1 H
  refine rFieldAt rfl ?_
  refine rLd (H.at 0 rfl) 1 rfl rfl rfl ?_
  refine H.fronts [3, 3, 3] ?_
  clear H
  intro H
  refine CallP.mk (Fc.imp (Go.Proofs.YtndhikahjmgamaaGreatDoor.Valid.out H _ ?_ ?_) ?_)
  · assumption
  · assumption
  clear H
  rintro _ w2 ⟨b'1, ⟨p2, ⟨rfl, ⟨h1, H⟩⟩⟩⟩
  refine CallP.mk (Fc.imp (Go.Proofs.YtndhikahjmgamaaGreatDoor.Valid.along _ _) ?_)
  rintro _ w3 ⟨⟨k1, ⟨rfl, h2⟩⟩, H'⟩
  refine H.mergeK H' ?_
  clear H H'
  intro H
  refine rFieldAt rfl ?_
  refine rLd (H.at 0 rfl) 14 rfl rfl rfl ?_
  refine cI (fun c1 => ?_) (fun c1 => ?_)
  · replace c1 := vEq_t (c1)
    refine CallP.mk (Fc.imp (Go.Proofs.YtndhikahjmgamaaGreatDoor.Valid.pop H _ ?_ ?_ ?_ ?_) ?_)
    · assumption
    · assumption
    · assumption
    · assumption
    clear H
    rintro _ w4 ⟨k2, ⟨vs'1, ⟨st'1, ⟨b'2, ⟨rfl, ⟨h3, ⟨h4, ⟨h5, H⟩⟩⟩⟩⟩⟩⟩⟩
    refine Done.mk ?_
    refine ⟨vs'1, st'1, b'2, ?_⟩
    refine ⟨?_, ?_⟩
    · exact way2 h1 h2 (by assumption) (by assumption)
    refine ⟨?_, ?_⟩
    · assumption
    refine ⟨?_, ?_⟩
    · assumption
    refine H.drop 3 ?_
    clear H
    intro H
    exact H
  replace c1 := vEq_f (c1)
  refine Done.mk ?_
  refine ⟨vs, st, b'1, ?_⟩
  refine ⟨?_, ?_⟩
  · exact way1 h1 (by assumption)
  refine ⟨?_, ?_⟩
  · assumption
  refine ⟨?_, ?_⟩
  · omega
  refine H.drop 3 ?_
  clear H
  intro H
  exact H
theorem take0 {xs : List Int} {i : Nat} (h : xs.length ≤ i) : Is (takesS ⟨st, op, b⟩ (xs.drop i)) ⟨st, op, b⟩ := by
  rw [List.drop_of_length_le h]; rfl
theorem take1 {xs : List Int} {i : Nat} {x k b1 b2 : Int} {s1 s2 : List Int} (hx : xs[i]? = some x) (h : Is (takesS ⟨st, op, b⟩ (xs.drop (i + 1))) ⟨s1, op, b1⟩) (h2 : Is (popS ⟨s1, op, b1⟩ x) (⟨s2, op, b2⟩, k)) : Is (takesS ⟨st, op, b⟩ (xs.drop i)) ⟨s2, op, b2⟩ := by
  have hh := List.getElem?_eq_some_iff.1 hx
  rw [List.drop_eq_getElem_cons hh.1, hh.2]
  unfold Is at *
  rw [takesS, ← h, ← h2]
theorem takes (H : Sat g w (Pt pc [m.vt, m.vm, m.vf, .int .i64 m.table, .int .i64 m.pages, .int .i64 m.most, m.vg, m.vx, .int .i64 m.start, m.ve, m.vd, vl, vs, vo, .int .i64 b] 131 :: Sl 98 1 enK vs st :: Sl 136 5 enPt vo op :: l)) (v : Value) (xs : List Int) (hx : FSl g enK U8 1 v xs) (hl : xs.length ≤ 1000) (hn : 0 < op.length) (hop : op.length ≤ 100) (hst : st.length ≤ 100000) (hok : Okc st op) : Fc Tryz.prog 136 #[.pointer (some ⟨pc, 0, none⟩), v] w (fun r w' => ∃ vs' st' b', Is (takesS ⟨st, op, b⟩ xs) ⟨st', op, b'⟩ ∧ Okc st' op ∧ st'.length ≤ st.length ∧ Sat g w' (Pt pc [m.vt, m.vm, m.vf, .int .i64 m.table, .int .i64 m.pages, .int .i64 m.most, m.vg, m.vx, .int .i64 m.start, m.ve, m.vd, vl, vs', vo, .int .i64 b'] 131 :: Sl 98 1 enK vs' st' :: Sl 136 5 enPt vo op :: l)) := by
  refine Fc.of Tryz.func136 rfl (by kernel_rfl) ?_
  refine rLenF hx rfl ?_
  refine eqI64 (by omega) ?_
  refine LoopP.rule (α := Nat × List Int × Int × Value) (xs.length, st, b, vs) (fun x_ => [(4, .int .i64 ((x_.1 : Int) - 1))]) (fun x_ w_ => (x_.1 ≤ xs.length) ∧ (Is (takesS ⟨st, op, b⟩ (xs.drop x_.1)) ⟨x_.2.1, op, x_.2.2.1⟩) ∧ (Okc x_.2.1 op) ∧ (x_.2.1.length ≤ st.length) ∧ Sat g w_ ((Pt pc [m.vt, m.vm, m.vf, .int .i64 m.table, .int .i64 m.pages, .int .i64 m.most, m.vg, m.vx, .int .i64 m.start, m.ve, m.vd, vl, x_.2.2.2, vo, .int .i64 x_.2.2.1] 131 :: Sl 98 1 enK x_.2.2.2 x_.2.1 :: Sl 136 5 enPt vo op :: l))) (fun x_ => x_.1) ?_ ?_ ?_
  · repeat first | exact mt_nil | refine mt_cons rfl ?_ | refine mt_i rfl (by first | omega | (simp only; omega) | (simp; omega) | (simp; done)) ?_
  · try simp only
    refine ⟨?_, ?_⟩
    · omega
    refine ⟨?_, ?_⟩
    · exact take0 (Nat.le_refl _)
    refine ⟨?_, ?_⟩
    · assumption
    refine ⟨?_, ?_⟩
    · omega
    exact H
  clear H
  rintro ⟨i, s1, b1, u1⟩ f_ w_ ⟨hi, ht, ho, hs, H⟩
  try simp only at hi ht ho hs H ⊢
  rcases Nat.eq_zero_or_pos i with h0 | h0
  · subst h0
    refine cF (vLe_F (by omega)) ?_
    refine Done.mk ?_
    refine ⟨u1, s1, b1, ?_⟩
    refine ⟨?_, ?_⟩
    · assumption
    refine ⟨?_, ?_⟩
    · assumption
    refine ⟨?_, ?_⟩
    · assumption
    exact H
  · obtain ⟨j, rfl⟩ : ∃ j, i = j + 1 := ⟨i - 1, by omega⟩
    have e : ((j + 1 : Nat) : Int) - 1 = (j : Int) := by omega
    rw [e]
    obtain ⟨k, hk⟩ : ∃ k, xs[j]? = some k := ⟨_, List.getElem?_eq_getElem (by omega)⟩
    refine cT (vLe_T (by omega)) ?_
    refine bk ?_
    obtain ⟨b2, o1, E1, F1, hok1⟩ := FSl.elt hx hk
    refine rIxE E1 rfl rfl rfl ?_
    refine rLd (H.fat F1) 0 rfl rfl rfl ?_
    refine CallP.mk (Fc.imp (Go.Proofs.YtndhikahjmgamaaGreatDoor.Valid.pop H _ ?_ ?_ ?_ ?_) ?_)
    · assumption
    · assumption
    · omega
    · assumption
    clear H
    rintro _ w1 ⟨k1, ⟨vs'1, ⟨st'1, ⟨b'1, ⟨rfl, ⟨h1, ⟨h2, ⟨h3, H⟩⟩⟩⟩⟩⟩⟩⟩
    refine eqI64 (by omega) ?_
    refine Nxt.mk ((j, st'1, b'1, vs'1)) (mt_cons rfl (mt_nil)) ?_ ?_
    · refine ⟨?_, ?_⟩
      · omega
      refine ⟨?_, ?_⟩
      · exact take1 hk ht (by assumption)
      refine ⟨?_, ?_⟩
      · assumption
      refine ⟨?_, ?_⟩
      · (simp only [List.length_append, List.length_set, List.length_cons, List.length_nil]; omega)
      exact H
    omega

end
end Go.Proofs.YtndhikahjmgamaaGreatDoor.Valid
/- Package valid: the checker's methods gives, choose, table. -/
set_option maxRecDepth 100000
set_option maxHeartbeats 4000000
set_option linter.unusedVariables false
set_option linter.unusedSimpArgs false
namespace Go.Proofs.YtndhikahjmgamaaGreatDoor.Valid
open Go Go.Proofs.YtndhikahjmgamaaGreatDoor.Eng Go.RowKit
open Ins Nest Leb Bin
section
variable {g : Glob} {w : World} {l : List As} {pc : Nat} {m : ModV} {vl vs vo : Value} {st : List Int} {op : List PartD} {b : Int}
def GI (st : List Int) (op : List PartD) (b : Int) (xs : List Int) (i : Nat) (s1 : List Int) : Prop := givesS ⟨st, op, b⟩ xs = givesS ⟨s1, op, b⟩ (xs.drop i)
theorem GI.zero {xs : List Int} : GI st op b xs 0 st := rfl
theorem GI.fin {xs : List Int} {i : Nat} {s1 : List Int} (h : GI st op b xs i s1) (hi : xs.length ≤ i) : Is (givesS ⟨st, op, b⟩ xs) ⟨s1, op, b⟩ := by
  unfold GI at h; rw [List.drop_of_length_le hi] at h; exact h.symm
theorem GI.step {xs : List Int} {i : Nat} {s1 s2 : List Int} {x : Int} (h : GI st op b xs i s1) (hx : xs[i]? = some x) (hp : Is (pushS ⟨s1, op, b⟩ x) ⟨s2, op, b⟩) : GI st op b xs (i + 1) s2 := by
  have hh := List.getElem?_eq_some_iff.1 hx
  unfold GI Is at *
  rw [h, List.drop_eq_getElem_cons hh.1, hh.2, givesS, ← hp]
theorem gives (H : Sat g w (Pt pc [m.vt, m.vm, m.vf, .int .i64 m.table, .int .i64 m.pages, .int .i64 m.most, m.vg, m.vx, .int .i64 m.start, m.ve, m.vd, vl, vs, vo, .int .i64 b] 131 :: Sl 98 1 enK vs st :: Sl 136 5 enPt vo op :: l)) (v : Value) (xs : List Int) (hx : FSl g enK U8 1 v xs) (hl : xs.length ≤ 1000) (hst : st.length ≤ 90000) : Fc Tryz.prog 137 #[.pointer (some ⟨pc, 0, none⟩), v] w (fun r w' => ∃ vs' st', Is (givesS ⟨st, op, b⟩ xs) ⟨st', op, b⟩ ∧ st.length ≤ st'.length ∧ st'.length ≤ st.length + xs.length ∧ Sat g w' (Pt pc [m.vt, m.vm, m.vf, .int .i64 m.table, .int .i64 m.pages, .int .i64 m.most, m.vg, m.vx, .int .i64 m.start, m.ve, m.vd, vl, vs', vo, .int .i64 b] 131 :: Sl 98 1 enK vs' st' :: Sl 136 5 enPt vo op :: l)) := by
  refine Fc.of Tryz.func137 rfl (by kernel_rfl) ?_
  refine rLenF hx rfl ?_
  refine LoopP.rule (α := Nat × List Int × Value) (0, st, vs) (fun x_ => [(8, .int .i64 x_.1)]) (fun x_ w_ => (x_.1 ≤ xs.length) ∧ (GI st op b xs x_.1 x_.2.1) ∧ (st.length ≤ x_.2.1.length ∧ x_.2.1.length ≤ st.length + x_.1) ∧ Sat g w_ ((Pt pc [m.vt, m.vm, m.vf, .int .i64 m.table, .int .i64 m.pages, .int .i64 m.most, m.vg, m.vx, .int .i64 m.start, m.ve, m.vd, vl, x_.2.2, vo, .int .i64 b] 131 :: Sl 98 1 enK x_.2.2 x_.2.1 :: Sl 136 5 enPt vo op :: l))) (fun x_ => xs.length - x_.1) ?_ ?_ ?_
  · repeat first | exact mt_nil | refine mt_cons rfl ?_ | refine mt_i rfl (by first | omega | (simp only; omega) | (simp; omega) | (simp; done)) ?_
  · try simp only
    refine ⟨?_, ?_⟩
    · omega
    refine ⟨?_, ?_⟩
    · exact GI.zero
    refine ⟨?_, ?_⟩
    · refine ⟨?_, ?_⟩
      · omega
      omega
    exact H
  clear H
  rintro ⟨i, s1, u1⟩ f_ w_ ⟨hi, hg, hs, H⟩
  try simp only at hi hg hs H ⊢
  refine cI (fun c1 => ?_) (fun c1 => ?_)
  · replace c1 := vLt_t (c1)
    refine bk ?_
    obtain ⟨x1, hx1⟩ : ∃ x, (xs)[(i)]? = some x := ⟨_, List.getElem?_eq_getElem (by omega)⟩
    obtain ⟨b1, o1, E1, F1, hok1⟩ := FSl.elt hx hx1
    refine rIxE E1 rfl rfl rfl ?_
    refine rLd (H.fat F1) 0 rfl rfl rfl ?_
    refine CallP.mk (Fc.imp (Go.Proofs.YtndhikahjmgamaaGreatDoor.Valid.push H _ ?_) ?_)
    · omega
    clear H
    rintro v' w1 ⟨vs'1, ⟨st'1, ⟨h1, ⟨h2, ⟨h3, H⟩⟩⟩⟩⟩
    refine eqI64 (by omega) ?_
    refine Nxt.mk ((i + 1, st'1, vs'1)) (mt_i rfl (by first | omega | (simp only; omega) | (simp; omega)) (mt_nil)) ?_ ?_
    · refine ⟨?_, ?_⟩
      · omega
      refine ⟨?_, ?_⟩
      · exact GI.step hg hx1 (by assumption)
      refine ⟨?_, ?_⟩
      · refine ⟨?_, ?_⟩
        · (simp only [List.length_append, List.length_set, List.length_cons, List.length_nil]; omega)
        (simp only [List.length_append, List.length_set, List.length_cons, List.length_nil]; omega)
      exact H
    omega
  replace c1 := vLt_f (c1)
  refine Done.mk ?_
  refine ⟨u1, s1, ?_⟩
  refine ⟨?_, ?_⟩
  · exact hg.fin (by omega)
  refine ⟨?_, ?_⟩
  · omega
  refine ⟨?_, ?_⟩
  · omega
  exact H
theorem choose1 {c c1 c2 c3 c4 : Ck} {k1 k2 k3 : Int} (h1 : Is (popS c 127) (c1, k1)) (h2 : Is (popS c1 0) (c2, k2)) (h3 : Is (popS c2 k2) (c3, k3)) (h4 : Is (pushS c3 k3) c4) : Is (chooseS c) c4 := by
  unfold Is at *
  unfold chooseS
  simp only
  rw [← h1]; simp only
  rw [← h2]; simp only
  rw [← h3, ← h4]
theorem choose (H : Sat g w (Pt pc [m.vt, m.vm, m.vf, .int .i64 m.table, .int .i64 m.pages, .int .i64 m.most, m.vg, m.vx, .int .i64 m.start, m.ve, m.vd, vl, vs, vo, .int .i64 b] 131 :: Sl 98 1 enK vs st :: Sl 136 5 enPt vo op :: l)) (hn : 0 < op.length) (hop : op.length ≤ 100) (hst : st.length ≤ 100000) (hok : Okc st op) : Fc Tryz.prog 99 #[.pointer (some ⟨pc, 0, none⟩)] w (fun r w' => ∃ vs' st' b', Is (chooseS ⟨st, op, b⟩) ⟨st', op, b'⟩ ∧ Okc st' op ∧ st'.length ≤ st.length + 1 ∧ Sat g w' (Pt pc [m.vt, m.vm, m.vf, .int .i64 m.table, .int .i64 m.pages, .int .i64 m.most, m.vg, m.vx, .int .i64 m.start, m.ve, m.vd, vl, vs', vo, .int .i64 b'] 131 :: Sl 98 1 enK vs' st' :: Sl 136 5 enPt vo op :: l)) := by
  refine Fc.of Tryz.func99 rfl (by kernel_rfl) ?_
  refine CallP.mk (Fc.imp (Go.Proofs.YtndhikahjmgamaaGreatDoor.Valid.pop H _ ?_ ?_ ?_ ?_) ?_)
  · assumption
  · assumption
  · assumption
  · exact Okc.more (by assumption) (by omega)
  clear H
  rintro _ w1 ⟨k1, ⟨vs'1, ⟨st'1, ⟨b'1, ⟨rfl, ⟨h1, ⟨h2, ⟨h3, H⟩⟩⟩⟩⟩⟩⟩⟩
  refine CallP.mk (Fc.imp (Go.Proofs.YtndhikahjmgamaaGreatDoor.Valid.pop H _ ?_ ?_ ?_ ?_) ?_)
  · assumption
  · assumption
  · omega
  · exact Okc.more (by assumption) (by omega)
  clear H
  rintro _ w2 ⟨k2, ⟨vs'2, ⟨st'2, ⟨b'2, ⟨rfl, ⟨h4, ⟨h5, ⟨h6, H⟩⟩⟩⟩⟩⟩⟩⟩
  refine CallP.mk (Fc.imp (Go.Proofs.YtndhikahjmgamaaGreatDoor.Valid.pop H _ ?_ ?_ ?_ ?_) ?_)
  · assumption
  · assumption
  · omega
  · exact Okc.more (by assumption) (by omega)
  clear H
  rintro _ w3 ⟨k3, ⟨vs'3, ⟨st'3, ⟨b'3, ⟨rfl, ⟨h7, ⟨h8, ⟨h9, H⟩⟩⟩⟩⟩⟩⟩⟩
  refine CallP.mk (Fc.imp (Go.Proofs.YtndhikahjmgamaaGreatDoor.Valid.push H _ ?_) ?_)
  · omega
  clear H
  rintro v' w4 ⟨vs'4, ⟨st'4, ⟨h10, ⟨h11, ⟨h12, H⟩⟩⟩⟩⟩
  refine Done.mk ?_
  refine ⟨vs'4, st'4, b'3, ?_⟩
  refine ⟨?_, ?_⟩
  · exact choose1 h1 (by assumption) (by assumption) (by assumption)
  refine ⟨?_, ?_⟩
  · exact Okc.more (by assumption) (by omega)
  refine ⟨?_, ?_⟩
  · omega
  exact H
def TI (k : Int) (tt : List Int) (c0 : Ck) (i : Nat) (c1 : Ck) (sm : Bool) : Prop := waysS k tt (c0, true) = waysS k (tt.drop i) (c1, sm)
theorem TI.zero {k : Int} {tt : List Int} {c : Ck} : TI k tt c 0 c true := rfl
theorem TI.step {k n k2 : Int} {tt : List Int} {c c1 c2 : Ck} {i : Nat} {sm sm' : Bool} {p : PartD} (h : TI k tt c i c1 sm) (hx : tt[i]? = some n) (ho : Is (outS c1 n) (c2, p)) (hk : k2 = alongS p) (hs : sm' = (decide (k2 = k) && sm)) : TI k tt c (i + 1) c2 sm' := by
  have hh := List.getElem?_eq_some_iff.1 hx
  unfold TI Is at *
  rw [h, List.drop_eq_getElem_cons hh.1, hh.2, waysS, ← ho, hs, hk]
theorem TI.fin {k : Int} {tt : List Int} {c c1 : Ck} {i : Nat} {sm : Bool} (h : TI k tt c i c1 sm) (hi : tt.length ≤ i) : waysS k tt (c, true) = (c1, sm) := by
  unfold TI at h; rw [List.drop_of_length_le hi] at h; exact h
theorem table1 {c c0 c1 : Ck} {a k : Int} {tt : List Int} {p : PartD} {sm : Bool} (h : Is (outS c a) (c0, p)) (hk : k = alongS p) (hw : waysS k tt (c0, true) = (c1, sm)) (hb : c1.bad ≠ 0) : Is (tableS c a tt) c1 := by
  unfold Is at *
  unfold tableS
  simp only
  rw [← h]; simp only
  rw [← hk, hw]
  exact (if_pos hb).symm
theorem table2 {c c0 c1 c2 c3 c4 : Ck} {a k k3 k4 : Int} {tt : List Int} {p : PartD} {sm : Bool} (h : Is (outS c a) (c0, p)) (hk : k = alongS p) (hw : waysS k tt (c0, true) = (c1, sm)) (hb : c1.bad = 0) (h2 : c2 = if sm = true then c1 else failS c1 10) (h3 : Is (popS c2 127) (c3, k3)) (h4 : Is (popS c3 k) (c4, k4)) : Is (tableS c a tt) c4 := by
  unfold Is at *
  unfold tableS
  simp only
  rw [← h]; simp only
  rw [← hk, hw]; simp only
  rw [if_neg (fun n => n hb), ← h2, ← h3]; simp only
  rw [← h4]
theorem table3 {c c0 c1 c2 c3 c4 : Ck} {a k k3 k4 : Int} {tt : List Int} {p : PartD} {sm : Bool} (h : Is (outS c a) (c0, p)) (hk : k = alongS p) (hw : waysS k tt (c0, true) = (c1, sm)) (hb : c1.bad = 0) (hs : sm = false) (h2 : Is (failS c1 10) c2) (h3 : Is (popS c2 127) (c3, k3)) (h4 : Is (popS c3 k) (c4, k4)) : Is (tableS c a tt) c4 :=
  table2 h hk hw hb (by rw [if_neg (by rw [hs]; decide)]; exact h2) h3 h4
theorem table (H : Sat g w (Pt pc [m.vt, m.vm, m.vf, .int .i64 m.table, .int .i64 m.pages, .int .i64 m.most, m.vg, m.vx, .int .i64 m.start, m.ve, m.vd, vl, vs, vo, .int .i64 b] 131 :: Sl 98 1 enK vs st :: Sl 136 5 enPt vo op :: l)) (o a bb : Int) (tv : Value) (tt : List Int) (ht : FSl g enI okI 1 tv tt) (ha : 0 ≤ a ∧ a ≤ 9223372036854775807) (hall : ∀ n ∈ tt, 0 ≤ n ∧ n ≤ 9223372036854775807) (hn : 0 < op.length) (hop : op.length ≤ 100) (hst : st.length ≤ 100000) (hok : Okc st op) : Fc Tryz.prog 135 #[.pointer (some ⟨pc, 0, none⟩), .agg #[.int .u8 o, .int .i64 a, .int .i64 bb, tv]] w (fun r w' => ∃ vs' st' b', Is (tableS ⟨st, op, b⟩ a tt) ⟨st', op, b'⟩ ∧ Okc st' op ∧ st'.length ≤ st.length ∧ Sat g w' (Pt pc [m.vt, m.vm, m.vf, .int .i64 m.table, .int .i64 m.pages, .int .i64 m.most, m.vg, m.vx, .int .i64 m.start, m.ve, m.vd, vl, vs', vo, .int .i64 b'] 131 :: Sl 98 1 enK vs' st' :: Sl 136 5 enPt vo op :: l)) := by
  refine Fc.of Tryz.func135 rfl (by kernel_rfl) ?_
  have hlt := SlR.len ht
  refine rBoxS H ?_
  clear H
  intro p1 w1 H
  refine rFieldAt rfl ?_
  refine rLd (H.at 0 rfl) 1 rfl rfl rfl ?_
  refine H.fronts [3, 3, 3] ?_
  clear H
  intro H
  refine CallP.mk (Fc.imp (Go.Proofs.YtndhikahjmgamaaGreatDoor.Valid.out H _ ?_ ?_) ?_)
  · assumption
  · assumption
  clear H
  rintro _ w2 ⟨b'1, ⟨p2, ⟨rfl, ⟨h1, H⟩⟩⟩⟩
  refine CallP.mk (Fc.imp (Go.Proofs.YtndhikahjmgamaaGreatDoor.Valid.along _ _) ?_)
  rintro _ w3 ⟨⟨k1, ⟨rfl, h2⟩⟩, H'⟩
  refine H.mergeK H' ?_
  clear H H'
  intro H
  refine rFieldAt rfl ?_
  refine rLd (H.at 3 rfl) 3 rfl rfl rfl ?_
  refine rLenF ht rfl ?_
  refine LoopP.rule (α := Nat × Int × Bool) (0, b'1, true) (fun x_ => [(16, .int .i64 x_.1), (5, .bool x_.2.2)]) (fun x_ w_ => (x_.1 ≤ tt.length) ∧ (TI k1 tt ⟨st, op, b'1⟩ x_.1 ⟨st, op, x_.2.1⟩ x_.2.2) ∧ Sat g w_ ((Pt pc [m.vt, m.vm, m.vf, .int .i64 m.table, .int .i64 m.pages, .int .i64 m.most, m.vg, m.vx, .int .i64 m.start, m.ve, m.vd, vl, vs, vo, .int .i64 x_.2.1] 131 :: Sl 98 1 enK vs st :: Sl 136 5 enPt vo op :: Pt p1 [.int .u8 o, .int .i64 a, .int .i64 bb, tv] 40 :: l))) (fun x_ => tt.length - x_.1) ?_ ?_ ?_
  · repeat first | exact mt_nil | refine mt_cons rfl ?_ | refine mt_i rfl (by first | omega | (simp only; omega) | (simp; omega) | (simp; done)) ?_
  · try simp only
    refine ⟨?_, ?_⟩
    · omega
    refine ⟨?_, ?_⟩
    · exact TI.zero
    exact H
  clear H
  rintro ⟨i, b1, sm⟩ f_ w_ ⟨hi, hT, H⟩
  try simp only at hi hT H ⊢
  rcases Nat.lt_or_ge i tt.length with hlt2 | hge
  · obtain ⟨n, hn2⟩ : ∃ n, tt[i]? = some n := ⟨_, List.getElem?_eq_getElem hlt2⟩
    have hnb := hall n (List.mem_of_getElem? hn2)
    refine cT (vLt_T (by omega)) ?_
    refine bk ?_
    obtain ⟨b2, o1, E1, F1, hok1⟩ := FSl.elt ht hn2
    refine rIxE E1 rfl rfl rfl ?_
    refine rLd (H.fat F1) 0 rfl rfl rfl ?_
    refine CallP.mk (Fc.imp (Go.Proofs.YtndhikahjmgamaaGreatDoor.Valid.out H _ ?_ ?_) ?_)
    · assumption
    · assumption
    clear H
    rintro _ w4 ⟨b'2, ⟨p3, ⟨rfl, ⟨h3, H⟩⟩⟩⟩
    refine CallP.mk (Fc.imp (Go.Proofs.YtndhikahjmgamaaGreatDoor.Valid.along _ _) ?_)
    rintro _ w5 ⟨⟨k2, ⟨rfl, h4⟩⟩, H'⟩
    refine H.mergeK H' ?_
    clear H H'
    intro H
    refine br (fun c1 => ?_) (fun c1 => ?_)
    · replace c1 := vEq_t (c1)
      refine eqI64 (by omega) ?_
      refine Nxt.mk ((i + 1, b'2, sm)) (mt_i rfl (by first | omega | (simp only; omega) | (simp; omega)) (mt_cons rfl (mt_nil))) ?_ ?_
      · refine ⟨?_, ?_⟩
        · assumption
        refine ⟨?_, ?_⟩
        · exact TI.step hT hn2 h3 h4 (by rw [decide_eq_true c1]; rfl)
        exact H
      omega
    replace c1 := vEq_f (c1)
    refine eqI64 (by omega) ?_
    refine Nxt.mk ((i + 1, b'2, false)) (mt_i rfl (by first | omega | (simp only; omega) | (simp; omega)) (mt_cons rfl (mt_nil))) ?_ ?_
    · refine ⟨?_, ?_⟩
      · assumption
      refine ⟨?_, ?_⟩
      · exact TI.step hT hn2 h3 h4 (by rw [decide_eq_false c1]; rfl)
      exact H
    omega
  · have hw2 := hT.fin hge
    refine cF (vLt_F (by omega)) ?_
    refine rFieldAt rfl ?_
    refine rLd (H.at 0 rfl) 14 rfl rfl rfl ?_
    refine cI (fun c1 => ?_) (fun c1 => ?_)
    · replace c1 := vNe_t (c1)
      refine Done.mk ?_
      refine ⟨vs, st, b1, ?_⟩
      refine ⟨?_, ?_⟩
      · exact table1 h1 h2 hw2 c1
      refine ⟨?_, ?_⟩
      · assumption
      refine ⟨?_, ?_⟩
      · omega
      refine H.drop 3 ?_
      clear H
      intro H
      exact H
    replace c1 := vNe_f (c1)
    refine cI (fun c2 => ?_) (fun c2 => ?_)
    · replace c2 := not_t (c2)
      refine CallP.mk (Fc.imp (Go.Proofs.YtndhikahjmgamaaGreatDoor.Valid.fail H _) ?_)
      clear H
      rintro v' w4 ⟨b'2, ⟨h3, H⟩⟩
      refine CallP.mk (Fc.imp (Go.Proofs.YtndhikahjmgamaaGreatDoor.Valid.pop H _ ?_ ?_ ?_ ?_) ?_)
      · assumption
      · assumption
      · assumption
      · assumption
      clear H
      rintro _ w5 ⟨k2, ⟨vs'1, ⟨st'1, ⟨b'3, ⟨rfl, ⟨h4, ⟨h5, ⟨h6, H⟩⟩⟩⟩⟩⟩⟩⟩
      refine CallP.mk (Fc.imp (Go.Proofs.YtndhikahjmgamaaGreatDoor.Valid.pop H _ ?_ ?_ ?_ ?_) ?_)
      · assumption
      · assumption
      · omega
      · assumption
      clear H
      rintro _ w6 ⟨k3, ⟨vs'2, ⟨st'2, ⟨b'4, ⟨rfl, ⟨h7, ⟨h8, ⟨h9, H⟩⟩⟩⟩⟩⟩⟩⟩
      refine Done.mk ?_
      refine ⟨vs'2, st'2, b'4, ?_⟩
      refine ⟨?_, ?_⟩
      · exact table3 h1 h2 hw2 (by assumption) (by assumption) (by assumption) (by assumption) (by assumption)
      refine ⟨?_, ?_⟩
      · assumption
      refine ⟨?_, ?_⟩
      · omega
      refine H.drop 3 ?_
      clear H
      intro H
      exact H
    replace c2 := not_f (c2)
    refine CallP.mk (Fc.imp (Go.Proofs.YtndhikahjmgamaaGreatDoor.Valid.pop H _ ?_ ?_ ?_ ?_) ?_)
    · assumption
    · assumption
    · assumption
    · assumption
    clear H
    rintro _ w4 ⟨k2, ⟨vs'1, ⟨st'1, ⟨b'2, ⟨rfl, ⟨h3, ⟨h4, ⟨h5, H⟩⟩⟩⟩⟩⟩⟩⟩
    refine CallP.mk (Fc.imp (Go.Proofs.YtndhikahjmgamaaGreatDoor.Valid.pop H _ ?_ ?_ ?_ ?_) ?_)
    · assumption
    · assumption
    · omega
    · assumption
    clear H
    rintro _ w5 ⟨k3, ⟨vs'2, ⟨st'2, ⟨b'3, ⟨rfl, ⟨h6, ⟨h7, ⟨h8, H⟩⟩⟩⟩⟩⟩⟩⟩
    refine Done.mk ?_
    refine ⟨vs'2, st'2, b'3, ?_⟩
    refine ⟨?_, ?_⟩
    · exact table2 h1 h2 hw2 (by assumption) (if_pos (by assumption)).symm (by assumption) (by assumption)
    refine ⟨?_, ?_⟩
    · assumption
    refine ⟨?_, ?_⟩
    · omega
    refine H.drop 3 ?_
    clear H
    intro H
    exact H

end
end Go.Proofs.YtndhikahjmgamaaGreatDoor.Valid
/- Package valid: the checker's method control, for each instruction. -/
set_option maxRecDepth 100000
set_option maxHeartbeats 4000000
set_option linter.unusedVariables false
set_option linter.unusedSimpArgs false
namespace Go.Proofs.YtndhikahjmgamaaGreatDoor.Valid
open Go Go.Proofs.YtndhikahjmgamaaGreatDoor.Eng Go.RowKit
open Ins Nest Leb Bin
section
variable {g : Glob} {w : World} {l : List As} {pc : Nat} {m : ModV} {vl vs vo : Value} {st : List Int} {op : List PartD} {b : Int}
theorem c0 {c c' : Ck} {a bb : Int} {tt : List Int} (h : Is (dieS c) c') : Is (controlS c ⟨0, a, bb, tt⟩) c' := by
  unfold controlS; rw [if_pos rfl]; exact h
theorem c2 {c c' : Ck} {a bb : Int} {tt : List Int} (h : Is (beginS c 2 a) c') : Is (controlS c ⟨2, a, bb, tt⟩) c' := by
  unfold controlS; rw [if_neg (by simp), if_pos (by simp)]; exact h
theorem c3 {c c' : Ck} {a bb : Int} {tt : List Int} (h : Is (beginS c 3 a) c') : Is (controlS c ⟨3, a, bb, tt⟩) c' := by
  unfold controlS; rw [if_neg (by simp), if_pos (by simp)]; exact h
theorem c4 {c c1 c' : Ck} {k a bb : Int} {tt : List Int} (h1 : Is (popS c 127) (c1, k)) (h : Is (beginS c1 4 a) c') : Is (controlS c ⟨4, a, bb, tt⟩) c' := by
  unfold controlS Is at *; rw [if_neg (by simp), if_neg (by simp), if_pos rfl, ← h1]; exact h
theorem c12 {c c1 c' : Ck} {a bb : Int} {tt : List Int} (h1 : Is (wayS c a) c1) (h : Is (dieS c1) c') : Is (controlS c ⟨12, a, bb, tt⟩) c' := by
  unfold controlS Is at *; rw [if_neg (by simp), if_neg (by simp), if_neg (by simp), if_neg (by simp), if_neg (by simp), if_pos rfl, ← h1]; exact h
theorem c13 {c c' : Ck} {a bb : Int} {tt : List Int} (h : Is (brifS c a) c') : Is (controlS c ⟨13, a, bb, tt⟩) c' := by
  unfold controlS; rw [if_neg (by simp), if_neg (by simp), if_neg (by simp), if_neg (by simp), if_neg (by simp), if_neg (by simp), if_pos rfl]; exact h
theorem c15 {c c1 c' : Ck} {k a bb : Int} {tt : List Int} {q : PartD} (hq : c.opn[0]? = some q) (h1 : Is (popS c q.kind) (c1, k)) (h : Is (dieS c1) c') : Is (controlS c ⟨15, a, bb, tt⟩) c' := by
  unfold controlS Is at *; rw [if_neg (by simp), if_neg (by simp), if_neg (by simp), if_neg (by simp), if_neg (by simp), if_neg (by simp), if_neg (by simp), if_pos rfl, List.getD_eq_getElem?_getD, hq]
  simp only [Option.getD_some]
  rw [← h1]; exact h
theorem c14 {c c1 c' : Ck} {a bb : Int} {tt : List Int} (h1 : Is (tableS c a tt) c1) (h : Is (dieS c1) c') : Is (controlS c ⟨14, a, bb, tt⟩) c' := by
  unfold controlS Is at *; rw [if_neg (by simp), if_neg (by simp), if_neg (by simp), if_neg (by simp), if_neg (by simp), if_neg (by simp), if_neg (by simp), if_neg (by simp), if_pos rfl]
  simp only
  rw [← h1]; exact h
theorem brif1 {c c1 : Ck} {a : Int} {p : PartD} (h : Is (outS c a) (c1, p)) (hb : c1.bad ≠ 0) : Is (brifS c a) c1 := by
  unfold Is at *; unfold brifS; simp only; rw [← h]; exact (if_neg hb).symm
theorem brif2 {c c1 c2 c3 c4 : Ck} {a k k2 k3 : Int} {p : PartD} (h : Is (outS c a) (c1, p)) (hk : k = alongS p) (hb : c1.bad = 0) (h2 : Is (popS c1 127) (c2, k2)) (h3 : Is (popS c2 k) (c3, k3)) (h4 : Is (pushS c3 k) c4) : Is (brifS c a) c4 := by
  unfold Is at *; unfold brifS; simp only; rw [← h]; simp only
  rw [if_pos hb, ← h2]; simp only
  rw [← hk, ← h3, ← h4]
theorem blk8 {a : Int} (h : a = 64 ∨ a = 127 ∨ a = 126) : vWrap .u8 a = a := by
  rcases h with rfl | rfl | rfl <;> (unfold vWrap; rfl)

theorem ctl0 (H : Sat g w (Pt pc [m.vt, m.vm, m.vf, .int .i64 m.table, .int .i64 m.pages, .int .i64 m.most, m.vg, m.vx, .int .i64 m.start, m.ve, m.vd, vl, vs, vo, .int .i64 b] 131 :: Sl 98 1 enK vs st :: Sl 136 5 enPt vo op :: l)) (a bb : Int) (tv : Value) (tt : List Int) (ht : FSl g enI okI 1 tv tt) (hn : 0 < op.length) (hop : op.length ≤ 99) (hst : st.length ≤ 90000) (hok : Okc st op) : Fc Tryz.prog 96 #[.pointer (some ⟨pc, 0, none⟩), .agg #[.int .u8 0, .int .i64 a, .int .i64 bb, tv]] w (fun r w' => ∃ vs' vo' st' op' b', Is (controlS ⟨st, op, b⟩ ⟨0, a, bb, tt⟩) ⟨st', op', b'⟩ ∧ Okc st' op' ∧ st'.length ≤ st.length + 1 ∧ Sat g w' (Pt pc [m.vt, m.vm, m.vf, .int .i64 m.table, .int .i64 m.pages, .int .i64 m.most, m.vg, m.vx, .int .i64 m.start, m.ve, m.vd, vl, vs', vo', .int .i64 b'] 131 :: Sl 98 1 enK vs' st' :: Sl 136 5 enPt vo' op' :: l)) := by
  obtain ⟨p, hp⟩ : ∃ p, op[op.length - 1]? = some p := ⟨_, List.getElem?_eq_getElem (by omega)⟩
  refine Fc.of Tryz.func96 rfl (by kernel_rfl) ?_
  refine rBoxS H ?_
  clear H
  intro p1 w1 H
  refine rFieldAt rfl ?_
  refine rLd (H.at 0 rfl) 0 rfl rfl rfl ?_
  refine bk ?_
  refine cT (vEq_T (by omega)) ?_
  refine H.fronts [3, 3, 3] ?_
  clear H
  intro H
  refine CallP.mk (Fc.imp (Go.Proofs.YtndhikahjmgamaaGreatDoor.Valid.die H ?_ ?_ ?_ ?_) ?_)
  · assumption
  · omega
  · omega
  · assumption
  clear H
  rintro v' w2 ⟨vs'1, ⟨st'1, ⟨op'1, ⟨h1, ⟨h2, ⟨h3, ⟨h4, H⟩⟩⟩⟩⟩⟩⟩
  refine Done.mk ?_
  refine ⟨vs'1, vo, st'1, op'1, b, ?_⟩
  refine ⟨?_, ?_⟩
  · exact c0 (by assumption)
  refine ⟨?_, ?_⟩
  · assumption
  refine ⟨?_, ?_⟩
  · omega
  refine H.drop 3 ?_
  clear H
  intro H
  exact H

theorem ctl2 (H : Sat g w (Pt pc [m.vt, m.vm, m.vf, .int .i64 m.table, .int .i64 m.pages, .int .i64 m.most, m.vg, m.vx, .int .i64 m.start, m.ve, m.vd, vl, vs, vo, .int .i64 b] 131 :: Sl 98 1 enK vs st :: Sl 136 5 enPt vo op :: l)) (a bb : Int) (tv : Value) (tt : List Int) (ht : FSl g enI okI 1 tv tt) (hblk : a = 64 ∨ a = 127 ∨ a = 126) (hn : 0 < op.length) (hop : op.length ≤ 99) (hst : st.length ≤ 90000) (hok : Okc st op) : Fc Tryz.prog 96 #[.pointer (some ⟨pc, 0, none⟩), .agg #[.int .u8 2, .int .i64 a, .int .i64 bb, tv]] w (fun r w' => ∃ vs' vo' st' op' b', Is (controlS ⟨st, op, b⟩ ⟨2, a, bb, tt⟩) ⟨st', op', b'⟩ ∧ Okc st' op' ∧ st'.length ≤ st.length + 1 ∧ Sat g w' (Pt pc [m.vt, m.vm, m.vf, .int .i64 m.table, .int .i64 m.pages, .int .i64 m.most, m.vg, m.vx, .int .i64 m.start, m.ve, m.vd, vl, vs', vo', .int .i64 b'] 131 :: Sl 98 1 enK vs' st' :: Sl 136 5 enPt vo' op' :: l)) := by
  obtain ⟨p, hp⟩ : ∃ p, op[op.length - 1]? = some p := ⟨_, List.getElem?_eq_getElem (by omega)⟩
  refine Fc.of Tryz.func96 rfl (by kernel_rfl) ?_
  have hb8 := blk8 hblk
  refine rBoxS H ?_
  clear H
  intro p1 w1 H
  refine rFieldAt rfl ?_
  refine rLd (H.at 0 rfl) 0 rfl rfl rfl ?_
  refine bk ?_
  refine cF (vEq_F (by omega)) ?_
  refine cT (vEq_T (by omega)) ?_
  refine cT (vEq_T (by omega)) ?_
  refine rFieldAt rfl ?_
  refine rLd (H.at 0 rfl) 0 rfl rfl rfl ?_
  refine rFieldAt rfl ?_
  refine rLd (H.at 0 rfl) 1 rfl rfl rfl ?_
  refine rConvU8 (by omega) rfl rfl ?_
  refine H.fronts [3, 3, 3] ?_
  clear H
  intro H
  refine CallP.mk (Fc.imp (Go.Proofs.YtndhikahjmgamaaGreatDoor.Valid.begin_ H _ _ ?_ ?_ ?_) ?_)
  · omega
  · omega
  · assumption
  clear H
  rintro v' w2 ⟨vo'1, ⟨op'1, ⟨h1, ⟨h2, ⟨h3, H⟩⟩⟩⟩⟩
  refine Done.mk ?_
  refine ⟨vs, vo'1, st, op'1, b, ?_⟩
  refine ⟨?_, ?_⟩
  · exact c2 (by assumption)
  refine ⟨?_, ?_⟩
  · assumption
  refine ⟨?_, ?_⟩
  · omega
  refine H.drop 3 ?_
  clear H
  intro H
  exact H

theorem ctl3 (H : Sat g w (Pt pc [m.vt, m.vm, m.vf, .int .i64 m.table, .int .i64 m.pages, .int .i64 m.most, m.vg, m.vx, .int .i64 m.start, m.ve, m.vd, vl, vs, vo, .int .i64 b] 131 :: Sl 98 1 enK vs st :: Sl 136 5 enPt vo op :: l)) (a bb : Int) (tv : Value) (tt : List Int) (ht : FSl g enI okI 1 tv tt) (hblk : a = 64 ∨ a = 127 ∨ a = 126) (hn : 0 < op.length) (hop : op.length ≤ 99) (hst : st.length ≤ 90000) (hok : Okc st op) : Fc Tryz.prog 96 #[.pointer (some ⟨pc, 0, none⟩), .agg #[.int .u8 3, .int .i64 a, .int .i64 bb, tv]] w (fun r w' => ∃ vs' vo' st' op' b', Is (controlS ⟨st, op, b⟩ ⟨3, a, bb, tt⟩) ⟨st', op', b'⟩ ∧ Okc st' op' ∧ st'.length ≤ st.length + 1 ∧ Sat g w' (Pt pc [m.vt, m.vm, m.vf, .int .i64 m.table, .int .i64 m.pages, .int .i64 m.most, m.vg, m.vx, .int .i64 m.start, m.ve, m.vd, vl, vs', vo', .int .i64 b'] 131 :: Sl 98 1 enK vs' st' :: Sl 136 5 enPt vo' op' :: l)) := by
  obtain ⟨p, hp⟩ : ∃ p, op[op.length - 1]? = some p := ⟨_, List.getElem?_eq_getElem (by omega)⟩
  refine Fc.of Tryz.func96 rfl (by kernel_rfl) ?_
  have hb8 := blk8 hblk
  refine rBoxS H ?_
  clear H
  intro p1 w1 H
  refine rFieldAt rfl ?_
  refine rLd (H.at 0 rfl) 0 rfl rfl rfl ?_
  refine bk ?_
  refine cF (vEq_F (by omega)) ?_
  refine cF (vEq_F (by omega)) ?_
  refine cT (vEq_T (by omega)) ?_
  refine rFieldAt rfl ?_
  refine rLd (H.at 0 rfl) 0 rfl rfl rfl ?_
  refine rFieldAt rfl ?_
  refine rLd (H.at 0 rfl) 1 rfl rfl rfl ?_
  refine rConvU8 (by omega) rfl rfl ?_
  refine H.fronts [3, 3, 3] ?_
  clear H
  intro H
  refine CallP.mk (Fc.imp (Go.Proofs.YtndhikahjmgamaaGreatDoor.Valid.begin_ H _ _ ?_ ?_ ?_) ?_)
  · omega
  · omega
  · assumption
  clear H
  rintro v' w2 ⟨vo'1, ⟨op'1, ⟨h1, ⟨h2, ⟨h3, H⟩⟩⟩⟩⟩
  refine Done.mk ?_
  refine ⟨vs, vo'1, st, op'1, b, ?_⟩
  refine ⟨?_, ?_⟩
  · exact c3 (by assumption)
  refine ⟨?_, ?_⟩
  · assumption
  refine ⟨?_, ?_⟩
  · omega
  refine H.drop 3 ?_
  clear H
  intro H
  exact H

theorem ctl4 (H : Sat g w (Pt pc [m.vt, m.vm, m.vf, .int .i64 m.table, .int .i64 m.pages, .int .i64 m.most, m.vg, m.vx, .int .i64 m.start, m.ve, m.vd, vl, vs, vo, .int .i64 b] 131 :: Sl 98 1 enK vs st :: Sl 136 5 enPt vo op :: l)) (a bb : Int) (tv : Value) (tt : List Int) (ht : FSl g enI okI 1 tv tt) (hblk : a = 64 ∨ a = 127 ∨ a = 126) (hn : 0 < op.length) (hop : op.length ≤ 99) (hst : st.length ≤ 90000) (hok : Okc st op) : Fc Tryz.prog 96 #[.pointer (some ⟨pc, 0, none⟩), .agg #[.int .u8 4, .int .i64 a, .int .i64 bb, tv]] w (fun r w' => ∃ vs' vo' st' op' b', Is (controlS ⟨st, op, b⟩ ⟨4, a, bb, tt⟩) ⟨st', op', b'⟩ ∧ Okc st' op' ∧ st'.length ≤ st.length + 1 ∧ Sat g w' (Pt pc [m.vt, m.vm, m.vf, .int .i64 m.table, .int .i64 m.pages, .int .i64 m.most, m.vg, m.vx, .int .i64 m.start, m.ve, m.vd, vl, vs', vo', .int .i64 b'] 131 :: Sl 98 1 enK vs' st' :: Sl 136 5 enPt vo' op' :: l)) := by
  obtain ⟨p, hp⟩ : ∃ p, op[op.length - 1]? = some p := ⟨_, List.getElem?_eq_getElem (by omega)⟩
  refine Fc.of Tryz.func96 rfl (by kernel_rfl) ?_
  have hb8 := blk8 hblk
  refine rBoxS H ?_
  clear H
  intro p1 w1 H
  refine rFieldAt rfl ?_
  refine rLd (H.at 0 rfl) 0 rfl rfl rfl ?_
  refine bk ?_
  refine cF (vEq_F (by omega)) ?_
  refine cF (vEq_F (by omega)) ?_
  refine cF (vEq_F (by omega)) ?_
  refine cT (vEq_T (by omega)) ?_
  refine H.fronts [3, 3, 3] ?_
  clear H
  intro H
  refine CallP.mk (Fc.imp (Go.Proofs.YtndhikahjmgamaaGreatDoor.Valid.pop H _ ?_ ?_ ?_ ?_) ?_)
  · assumption
  · omega
  · omega
  · assumption
  clear H
  rintro _ w2 ⟨k1, ⟨vs'1, ⟨st'1, ⟨b'1, ⟨rfl, ⟨h1, ⟨h2, ⟨h3, H⟩⟩⟩⟩⟩⟩⟩⟩
  refine rFieldAt rfl ?_
  refine rLd (H.at 3 rfl) 0 rfl rfl rfl ?_
  refine rFieldAt rfl ?_
  refine rLd (H.at 3 rfl) 1 rfl rfl rfl ?_
  refine rConvU8 (by omega) rfl rfl ?_
  refine CallP.mk (Fc.imp (Go.Proofs.YtndhikahjmgamaaGreatDoor.Valid.begin_ H _ _ ?_ ?_ ?_) ?_)
  · omega
  · omega
  · assumption
  clear H
  rintro v' w3 ⟨vo'1, ⟨op'1, ⟨h4, ⟨h5, ⟨h6, H⟩⟩⟩⟩⟩
  refine Done.mk ?_
  refine ⟨vs'1, vo'1, st'1, op'1, b'1, ?_⟩
  refine ⟨?_, ?_⟩
  · exact c4 (by assumption) (by assumption)
  refine ⟨?_, ?_⟩
  · assumption
  refine ⟨?_, ?_⟩
  · omega
  refine H.drop 3 ?_
  clear H
  intro H
  exact H

theorem ctl12 (H : Sat g w (Pt pc [m.vt, m.vm, m.vf, .int .i64 m.table, .int .i64 m.pages, .int .i64 m.most, m.vg, m.vx, .int .i64 m.start, m.ve, m.vd, vl, vs, vo, .int .i64 b] 131 :: Sl 98 1 enK vs st :: Sl 136 5 enPt vo op :: l)) (a bb : Int) (tv : Value) (tt : List Int) (ht : FSl g enI okI 1 tv tt) (ha : 0 ≤ a ∧ a ≤ 9223372036854775807) (hn : 0 < op.length) (hop : op.length ≤ 99) (hst : st.length ≤ 90000) (hok : Okc st op) : Fc Tryz.prog 96 #[.pointer (some ⟨pc, 0, none⟩), .agg #[.int .u8 12, .int .i64 a, .int .i64 bb, tv]] w (fun r w' => ∃ vs' vo' st' op' b', Is (controlS ⟨st, op, b⟩ ⟨12, a, bb, tt⟩) ⟨st', op', b'⟩ ∧ Okc st' op' ∧ st'.length ≤ st.length + 1 ∧ Sat g w' (Pt pc [m.vt, m.vm, m.vf, .int .i64 m.table, .int .i64 m.pages, .int .i64 m.most, m.vg, m.vx, .int .i64 m.start, m.ve, m.vd, vl, vs', vo', .int .i64 b'] 131 :: Sl 98 1 enK vs' st' :: Sl 136 5 enPt vo' op' :: l)) := by
  obtain ⟨p, hp⟩ : ∃ p, op[op.length - 1]? = some p := ⟨_, List.getElem?_eq_getElem (by omega)⟩
  refine Fc.of Tryz.func96 rfl (by kernel_rfl) ?_
  refine rBoxS H ?_
  clear H
  intro p1 w1 H
  refine rFieldAt rfl ?_
  refine rLd (H.at 0 rfl) 0 rfl rfl rfl ?_
  refine bk ?_
  refine cF (vEq_F (by omega)) ?_
  refine cF (vEq_F (by omega)) ?_
  refine cF (vEq_F (by omega)) ?_
  refine cF (vEq_F (by omega)) ?_
  refine cF (vEq_F (by omega)) ?_
  refine cF (vEq_F (by omega)) ?_
  refine cT (vEq_T (by omega)) ?_
  refine rLdA (H.at 0 rfl) 0 rfl rfl rfl ?_
  refine H.fronts [3, 3, 3] ?_
  clear H
  intro H
  refine CallP.mk (Fc.imp (Go.Proofs.YtndhikahjmgamaaGreatDoor.Valid.way H _ _ _ _ ?_ ?_ ?_ ?_ ?_) ?_)
  · assumption
  · assumption
  · omega
  · omega
  · assumption
  clear H
  rintro v' w2 ⟨vs'1, ⟨st'1, ⟨b'1, ⟨h1, ⟨h2, ⟨h3, H⟩⟩⟩⟩⟩⟩
  refine CallP.mk (Fc.imp (Go.Proofs.YtndhikahjmgamaaGreatDoor.Valid.die H ?_ ?_ ?_ ?_) ?_)
  · assumption
  · omega
  · omega
  · assumption
  clear H
  rintro va' w3 ⟨vs'2, ⟨st'2, ⟨op'1, ⟨h4, ⟨h5, ⟨h6, ⟨h7, H⟩⟩⟩⟩⟩⟩⟩
  refine Done.mk ?_
  refine ⟨vs'2, vo, st'2, op'1, b'1, ?_⟩
  refine ⟨?_, ?_⟩
  · exact c12 (by assumption) (by assumption)
  refine ⟨?_, ?_⟩
  · assumption
  refine ⟨?_, ?_⟩
  · omega
  refine H.drop 3 ?_
  clear H
  intro H
  exact H

theorem ctl13 (H : Sat g w (Pt pc [m.vt, m.vm, m.vf, .int .i64 m.table, .int .i64 m.pages, .int .i64 m.most, m.vg, m.vx, .int .i64 m.start, m.ve, m.vd, vl, vs, vo, .int .i64 b] 131 :: Sl 98 1 enK vs st :: Sl 136 5 enPt vo op :: l)) (a bb : Int) (tv : Value) (tt : List Int) (ht : FSl g enI okI 1 tv tt) (ha : 0 ≤ a ∧ a ≤ 9223372036854775807) (hn : 0 < op.length) (hop : op.length ≤ 99) (hst : st.length ≤ 90000) (hok : Okc st op) : Fc Tryz.prog 96 #[.pointer (some ⟨pc, 0, none⟩), .agg #[.int .u8 13, .int .i64 a, .int .i64 bb, tv]] w (fun r w' => ∃ vs' vo' st' op' b', Is (controlS ⟨st, op, b⟩ ⟨13, a, bb, tt⟩) ⟨st', op', b'⟩ ∧ Okc st' op' ∧ st'.length ≤ st.length + 1 ∧ Sat g w' (Pt pc [m.vt, m.vm, m.vf, .int .i64 m.table, .int .i64 m.pages, .int .i64 m.most, m.vg, m.vx, .int .i64 m.start, m.ve, m.vd, vl, vs', vo', .int .i64 b'] 131 :: Sl 98 1 enK vs' st' :: Sl 136 5 enPt vo' op' :: l)) := by
  obtain ⟨p, hp⟩ : ∃ p, op[op.length - 1]? = some p := ⟨_, List.getElem?_eq_getElem (by omega)⟩
  refine Fc.of Tryz.func96 rfl (by kernel_rfl) ?_
  refine rBoxS H ?_
  clear H
  intro p1 w1 H
  refine rFieldAt rfl ?_
  refine rLd (H.at 0 rfl) 0 rfl rfl rfl ?_
  refine bk ?_
  refine cF (vEq_F (by omega)) ?_
  refine cF (vEq_F (by omega)) ?_
  refine cF (vEq_F (by omega)) ?_
  refine cF (vEq_F (by omega)) ?_
  refine cF (vEq_F (by omega)) ?_
  refine cF (vEq_F (by omega)) ?_
  refine cF (vEq_F (by omega)) ?_
  refine cT (vEq_T (by omega)) ?_
  refine rFieldAt rfl ?_
  refine rLd (H.at 0 rfl) 1 rfl rfl rfl ?_
  refine H.fronts [3, 3, 3] ?_
  clear H
  intro H
  refine CallP.mk (Fc.imp (Go.Proofs.YtndhikahjmgamaaGreatDoor.Valid.out H _ ?_ ?_) ?_)
  · assumption
  · omega
  clear H
  rintro _ w2 ⟨b'1, ⟨p2, ⟨rfl, ⟨h1, H⟩⟩⟩⟩
  refine CallP.mk (Fc.imp (Go.Proofs.YtndhikahjmgamaaGreatDoor.Valid.along _ _) ?_)
  rintro _ w3 ⟨⟨k1, ⟨rfl, h2⟩⟩, H'⟩
  refine H.mergeK H' ?_
  clear H H'
  intro H
  refine rFieldAt rfl ?_
  refine rLd (H.at 0 rfl) 14 rfl rfl rfl ?_
  refine cI (fun c1 => ?_) (fun c1 => ?_)
  · replace c1 := vEq_t (c1)
    refine CallP.mk (Fc.imp (Go.Proofs.YtndhikahjmgamaaGreatDoor.Valid.pop H _ ?_ ?_ ?_ ?_) ?_)
    · assumption
    · omega
    · omega
    · exact Okc.more (by assumption) (by omega)
    clear H
    rintro _ w4 ⟨k2, ⟨vs'1, ⟨st'1, ⟨b'2, ⟨rfl, ⟨h3, ⟨h4, ⟨h5, H⟩⟩⟩⟩⟩⟩⟩⟩
    refine CallP.mk (Fc.imp (Go.Proofs.YtndhikahjmgamaaGreatDoor.Valid.pop H _ ?_ ?_ ?_ ?_) ?_)
    · assumption
    · omega
    · omega
    · exact Okc.more (by assumption) (by omega)
    clear H
    rintro _ w5 ⟨k3, ⟨vs'2, ⟨st'2, ⟨b'3, ⟨rfl, ⟨h6, ⟨h7, ⟨h8, H⟩⟩⟩⟩⟩⟩⟩⟩
    refine CallP.mk (Fc.imp (Go.Proofs.YtndhikahjmgamaaGreatDoor.Valid.push H _ ?_) ?_)
    · omega
    clear H
    rintro v' w6 ⟨vs'3, ⟨st'3, ⟨h9, ⟨h10, ⟨h11, H⟩⟩⟩⟩⟩
    refine Done.mk ?_
    refine ⟨vs'3, vo, st'3, op, b'3, ?_⟩
    refine ⟨?_, ?_⟩
    · exact c13 (brif2 h1 h2 (by assumption) (by assumption) (by assumption) (by assumption))
    refine ⟨?_, ?_⟩
    · exact Okc.more (by assumption) (by omega)
    refine ⟨?_, ?_⟩
    · omega
    refine H.drop 3 ?_
    clear H
    intro H
    exact H
  replace c1 := vEq_f (c1)
  refine Done.mk ?_
  refine ⟨vs, vo, st, op, b'1, ?_⟩
  refine ⟨?_, ?_⟩
  · exact c13 (brif1 h1 (by assumption))
  refine ⟨?_, ?_⟩
  · exact Okc.more (by assumption) (by omega)
  refine ⟨?_, ?_⟩
  · omega
  refine H.drop 3 ?_
  clear H
  intro H
  exact H

theorem ctl15 (H : Sat g w (Pt pc [m.vt, m.vm, m.vf, .int .i64 m.table, .int .i64 m.pages, .int .i64 m.most, m.vg, m.vx, .int .i64 m.start, m.ve, m.vd, vl, vs, vo, .int .i64 b] 131 :: Sl 98 1 enK vs st :: Sl 136 5 enPt vo op :: l)) (a bb : Int) (tv : Value) (tt : List Int) (ht : FSl g enI okI 1 tv tt) (hn : 0 < op.length) (hop : op.length ≤ 99) (hst : st.length ≤ 90000) (hok : Okc st op) : Fc Tryz.prog 96 #[.pointer (some ⟨pc, 0, none⟩), .agg #[.int .u8 15, .int .i64 a, .int .i64 bb, tv]] w (fun r w' => ∃ vs' vo' st' op' b', Is (controlS ⟨st, op, b⟩ ⟨15, a, bb, tt⟩) ⟨st', op', b'⟩ ∧ Okc st' op' ∧ st'.length ≤ st.length + 1 ∧ Sat g w' (Pt pc [m.vt, m.vm, m.vf, .int .i64 m.table, .int .i64 m.pages, .int .i64 m.most, m.vg, m.vx, .int .i64 m.start, m.ve, m.vd, vl, vs', vo', .int .i64 b'] 131 :: Sl 98 1 enK vs' st' :: Sl 136 5 enPt vo' op' :: l)) := by
  obtain ⟨p, hp⟩ : ∃ p, op[op.length - 1]? = some p := ⟨_, List.getElem?_eq_getElem (by omega)⟩
  refine Fc.of Tryz.func96 rfl (by kernel_rfl) ?_
  obtain ⟨q, hq⟩ : ∃ q, op[0]? = some q := ⟨_, List.getElem?_eq_getElem hn⟩
  refine rBoxS H ?_
  clear H
  intro p1 w1 H
  refine rFieldAt rfl ?_
  refine rLd (H.at 0 rfl) 0 rfl rfl rfl ?_
  refine bk ?_
  refine cF (vEq_F (by omega)) ?_
  refine cF (vEq_F (by omega)) ?_
  refine cF (vEq_F (by omega)) ?_
  refine cF (vEq_F (by omega)) ?_
  refine cF (vEq_F (by omega)) ?_
  refine cF (vEq_F (by omega)) ?_
  refine cF (vEq_F (by omega)) ?_
  refine cF (vEq_F (by omega)) ?_
  refine cT (vEq_T (by omega)) ?_
  refine rFieldAt rfl ?_
  refine rLd (H.at 1 rfl) 13 rfl rfl rfl ?_
  obtain ⟨b1, o1, E1⟩ := H.elt 3 rfl 0 (by omega)
  refine rIxE E1 rfl rfl rfl ?_
  refine rFieldAt rfl ?_
  refine rLd (H.el 3 rfl E1 hq) 1 rfl rfl rfl ?_
  refine H.fronts [3, 3, 3] ?_
  clear H
  intro H
  refine CallP.mk (Fc.imp (Go.Proofs.YtndhikahjmgamaaGreatDoor.Valid.pop H _ ?_ ?_ ?_ ?_) ?_)
  · assumption
  · omega
  · omega
  · assumption
  clear H
  rintro _ w2 ⟨k1, ⟨vs'1, ⟨st'1, ⟨b'1, ⟨rfl, ⟨h1, ⟨h2, ⟨h3, H⟩⟩⟩⟩⟩⟩⟩⟩
  refine CallP.mk (Fc.imp (Go.Proofs.YtndhikahjmgamaaGreatDoor.Valid.die H ?_ ?_ ?_ ?_) ?_)
  · assumption
  · omega
  · omega
  · assumption
  clear H
  rintro v' w3 ⟨vs'2, ⟨st'2, ⟨op'1, ⟨h4, ⟨h5, ⟨h6, ⟨h7, H⟩⟩⟩⟩⟩⟩⟩
  refine Done.mk ?_
  refine ⟨vs'2, vo, st'2, op'1, b'1, ?_⟩
  refine ⟨?_, ?_⟩
  · exact c15 hq (by assumption) (by assumption)
  refine ⟨?_, ?_⟩
  · assumption
  refine ⟨?_, ?_⟩
  · omega
  refine H.drop 3 ?_
  clear H
  intro H
  exact H

theorem ctl14 (H : Sat g w (Pt pc [m.vt, m.vm, m.vf, .int .i64 m.table, .int .i64 m.pages, .int .i64 m.most, m.vg, m.vx, .int .i64 m.start, m.ve, m.vd, vl, vs, vo, .int .i64 b] 131 :: Sl 98 1 enK vs st :: Sl 136 5 enPt vo op :: l)) (a bb : Int) (tv : Value) (tt : List Int) (ht : FSl g enI okI 1 tv tt) (ha : 0 ≤ a ∧ a ≤ 9223372036854775807) (hall : ∀ n ∈ tt, 0 ≤ n ∧ n ≤ 9223372036854775807) (hn : 0 < op.length) (hop : op.length ≤ 99) (hst : st.length ≤ 90000) (hok : Okc st op) : Fc Tryz.prog 96 #[.pointer (some ⟨pc, 0, none⟩), .agg #[.int .u8 14, .int .i64 a, .int .i64 bb, tv]] w (fun r w' => ∃ vs' vo' st' op' b', Is (controlS ⟨st, op, b⟩ ⟨14, a, bb, tt⟩) ⟨st', op', b'⟩ ∧ Okc st' op' ∧ st'.length ≤ st.length + 1 ∧ Sat g w' (Pt pc [m.vt, m.vm, m.vf, .int .i64 m.table, .int .i64 m.pages, .int .i64 m.most, m.vg, m.vx, .int .i64 m.start, m.ve, m.vd, vl, vs', vo', .int .i64 b'] 131 :: Sl 98 1 enK vs' st' :: Sl 136 5 enPt vo' op' :: l)) := by
  obtain ⟨p, hp⟩ : ∃ p, op[op.length - 1]? = some p := ⟨_, List.getElem?_eq_getElem (by omega)⟩
  refine Fc.of Tryz.func96 rfl (by kernel_rfl) ?_
  refine rBoxS H ?_
  clear H
  intro p1 w1 H
  refine rFieldAt rfl ?_
  refine rLd (H.at 0 rfl) 0 rfl rfl rfl ?_
  refine bk ?_
  refine cF (vEq_F (by omega)) ?_
  refine cF (vEq_F (by omega)) ?_
  refine cF (vEq_F (by omega)) ?_
  refine cF (vEq_F (by omega)) ?_
  refine cF (vEq_F (by omega)) ?_
  refine cF (vEq_F (by omega)) ?_
  refine cF (vEq_F (by omega)) ?_
  refine cF (vEq_F (by omega)) ?_
  refine cF (vEq_F (by omega)) ?_
  refine cT (vEq_T (by omega)) ?_
  refine rLdA (H.at 0 rfl) 0 rfl rfl rfl ?_
  refine H.fronts [3, 3, 3] ?_
  clear H
  intro H
  refine CallP.mk (Fc.imp (Go.Proofs.YtndhikahjmgamaaGreatDoor.Valid.table H _ _ _ _ _ ht ?_ ?_ ?_ ?_ ?_ ?_) ?_)
  · assumption
  · assumption
  · assumption
  · omega
  · omega
  · assumption
  clear H
  rintro v' w2 ⟨vs'1, ⟨st'1, ⟨b'1, ⟨h1, ⟨h2, ⟨h3, H⟩⟩⟩⟩⟩⟩
  refine CallP.mk (Fc.imp (Go.Proofs.YtndhikahjmgamaaGreatDoor.Valid.die H ?_ ?_ ?_ ?_) ?_)
  · assumption
  · omega
  · omega
  · assumption
  clear H
  rintro va' w3 ⟨vs'2, ⟨st'2, ⟨op'1, ⟨h4, ⟨h5, ⟨h6, ⟨h7, H⟩⟩⟩⟩⟩⟩⟩
  refine Done.mk ?_
  refine ⟨vs'2, vo, st'2, op'1, b'1, ?_⟩
  refine ⟨?_, ?_⟩
  · exact c14 (by assumption) (by assumption)
  refine ⟨?_, ?_⟩
  · assumption
  refine ⟨?_, ?_⟩
  · omega
  refine H.drop 3 ?_
  clear H
  intro H
  exact H

end
end Go.Proofs.YtndhikahjmgamaaGreatDoor.Valid
/- Package valid: the checker's method control, for else and end. -/
set_option maxRecDepth 100000
set_option maxHeartbeats 4000000
set_option linter.unusedVariables false
set_option linter.unusedSimpArgs false
namespace Go.Proofs.YtndhikahjmgamaaGreatDoor.Valid
open Go Go.Proofs.YtndhikahjmgamaaGreatDoor.Eng Go.RowKit
open Ins Nest Leb Bin
section
variable {g : Glob} {w : World} {l : List As} {pc : Nat} {m : ModV} {vl vs vo : Value} {st : List Int} {op : List PartD} {b : Int}
theorem c5 {c c' : Ck} {a bb : Int} {tt : List Int} (h : Is (elseS c) c') : Is (controlS c ⟨5, a, bb, tt⟩) c' := by
  unfold controlS; rw [if_neg (by simp), if_neg (by simp), if_neg (by simp), if_pos rfl]; exact h
theorem c11 {c c' : Ck} {a bb : Int} {tt : List Int} (h : Is (endS c) c') : Is (controlS c ⟨11, a, bb, tt⟩) c' := by
  unfold controlS; rw [if_neg (by simp), if_neg (by simp), if_neg (by simp), if_neg (by simp), if_pos rfl]; exact h
theorem else1 {c c1 : Ck} (h : Is (closeS c) c1) (hb : c1.bad ≠ 0) : Is (elseS c) c1 := by
  unfold Is at *; unfold elseS; simp only; rw [← h]; exact (if_neg hb).symm
theorem else2 {b' : Int} {st' : List Int} {p : PartD} (hp : op[op.length - 1]? = some p) (h : Is (closeS ⟨st, op, b⟩) ⟨st', op, b'⟩) (hb : b' = 0) : Is (elseS ⟨st, op, b⟩) ⟨st', op.take (op.length - 1) ++ [⟨5, p.kind, p.base, false, p.under⟩], b'⟩ := by
  unfold Is at *; unfold elseS; simp only; rw [← h, topS_of hp]; exact (if_pos hb).symm
theorem ctl5 (H : Sat g w (Pt pc [m.vt, m.vm, m.vf, .int .i64 m.table, .int .i64 m.pages, .int .i64 m.most, m.vg, m.vx, .int .i64 m.start, m.ve, m.vd, vl, vs, vo, .int .i64 b] 131 :: Sl 98 1 enK vs st :: Sl 136 5 enPt vo op :: l)) (a bb : Int) (tv : Value) (tt : List Int) (ht : FSl g enI okI 1 tv tt) (hn : 0 < op.length) (hop : op.length ≤ 99) (hst : st.length ≤ 90000) (hok : Okc st op) : Fc Tryz.prog 96 #[.pointer (some ⟨pc, 0, none⟩), .agg #[.int .u8 5, .int .i64 a, .int .i64 bb, tv]] w (fun r w' => ∃ vs' vo' st' op' b', Is (controlS ⟨st, op, b⟩ ⟨5, a, bb, tt⟩) ⟨st', op', b'⟩ ∧ Okc st' op' ∧ st'.length ≤ st.length + 1 ∧ Sat g w' (Pt pc [m.vt, m.vm, m.vf, .int .i64 m.table, .int .i64 m.pages, .int .i64 m.most, m.vg, m.vx, .int .i64 m.start, m.ve, m.vd, vl, vs', vo', .int .i64 b'] 131 :: Sl 98 1 enK vs' st' :: Sl 136 5 enPt vo' op' :: l)) := by
  obtain ⟨p, hp⟩ : ∃ p, op[op.length - 1]? = some p := ⟨_, List.getElem?_eq_getElem (by omega)⟩
  refine Fc.of Tryz.func96 rfl (by kernel_rfl) ?_
  refine rBoxS H ?_
  clear H
  intro p1 w1 H
  refine rFieldAt rfl ?_
  refine rLd (H.at 0 rfl) 0 rfl rfl rfl ?_
  refine bk ?_
  refine cF (vEq_F (by omega)) ?_
  refine cF (vEq_F (by omega)) ?_
  refine cF (vEq_F (by omega)) ?_
  refine cF (vEq_F (by omega)) ?_
  refine cT (vEq_T (by omega)) ?_
  refine H.fronts [3, 3, 3] ?_
  clear H
  intro H
  refine CallP.mk (Fc.imp (Go.Proofs.YtndhikahjmgamaaGreatDoor.Valid.close H _ hp ?_ ?_ ?_ ?_) ?_)
  · assumption
  · omega
  · omega
  · assumption
  clear H
  rintro _ w2 ⟨vs'1, ⟨st'1, ⟨b'1, ⟨rfl, ⟨h1, ⟨h2, ⟨h3, H⟩⟩⟩⟩⟩⟩⟩
  refine rAllocS H rfl ?_
  clear H
  intro p2 w3 H
  clear w2
  refine rStAS H 0 rfl rfl rfl rfl ?_
  clear H
  intro w2 H
  clear w3
  refine rFieldAt rfl ?_
  refine rLd (H.at 1 rfl) 14 rfl rfl rfl ?_
  refine cI (fun c1 => ?_) (fun c1 => ?_)
  rotate_left
  · replace c1 := vEq_f (c1)
    refine Done.mk ?_
    refine ⟨vs'1, vo, st'1, op, b'1, ?_⟩
    refine ⟨?_, ?_⟩
    · exact c5 (else1 h1 (by assumption))
    refine ⟨?_, ?_⟩
    · assumption
    refine ⟨?_, ?_⟩
    · omega
    refine H.fronts [3, 3, 3] ?_
    clear H
    intro H
    refine H.drop 4 ?_
    clear H
    intro H
    refine H.drop 3 ?_
    clear H
    intro H
    exact H
  replace c1 := vEq_t (c1)
  refine drawzS H [] [(0, .pure), (1, .pure), (2, .pure), (3, .pure), (4, .held), (5, .pure), (6, .pure), (7, .pure), (8, .held), (9, .pure), (10, .pure), (11, .pure), (12, .pure), (13, .pure), (14, .free)] mixed (by kernel_rfl) (by kernel_rfl) ?_
  clear H
  intro w3 H
  clear w2
  refine tk (fun wx HS => rFieldAt rfl ⟨rfl, rfl⟩) ?_
  refine tk (fun wx HS => rLd (HS.at 1 rfl) 13 rfl rfl rfl ⟨rfl, rfl⟩) ?_
  refine tk (fun wx HS => rFieldAt rfl ⟨rfl, rfl⟩) ?_
  refine tk (fun wx HS => rLd (HS.at 1 rfl) 13 rfl rfl rfl ⟨rfl, rfl⟩) ?_
  obtain ⟨a1, c2, V1⟩ := H.form 3 rfl
  refine tk (fun wx HS => rLenV V1 rfl ⟨rfl, rfl⟩) ?_
  refine eqI64 (by omega) ?_
  obtain ⟨v1, V2⟩ := H.vw 3 rfl (0) (((op.length) - 1)) (by omega) (by omega)
  refine tk (fun wx HS => rSlVw V2 rfl rfl (.inl ⟨rfl, rfl⟩) (.inr ⟨_, by first | rfl | (congr 2; omega)⟩) ⟨rfl, rfl⟩) ?_
  refine tk (fun wx HS => rFieldAt rfl ⟨rfl, rfl⟩) ?_
  refine rStS H 1 rfl rfl rfl (by simp only [Bool.and_true, H.one 2 rfl, H.one 3 rfl, Vw.one V2, FSl.one ht]) ?_
  clear H
  intro w2 H
  clear w3
  replace H := H.ofVw 3 rfl V2
  simp only [List.set_cons_succ, List.set_cons_zero] at H
  have hto : (op.take (op.length - 1)).length = op.length - 1 := by rw [List.length_take]; omega
  have hso := set_last (p' := ⟨5, p.kind, p.base, false, p.under⟩) hp
  refine drawzS H [] [(0, .pure), (1, .pure), (2, .pure), (3, .pure), (4, .held), (5, .pure), (6, .held), (7, .pure), (8, .held), (9, .pure), (10, .held), (11, .pure), (12, .held), (13, .pure), (14, .forced), (15, .free), (16, .pure), (17, .pure), (18, .free)] mixed (by kernel_rfl) (by kernel_rfl) ?_
  clear H
  intro w3 H
  clear w2
  refine tk (fun wx HS => rFieldAt rfl ⟨rfl, rfl⟩) ?_
  refine tk (fun wx HS => rLd (HS.at 1 rfl) 13 rfl rfl rfl ⟨rfl, rfl⟩) ?_
  refine tk (fun wx HS => rFieldAt rfl ⟨rfl, rfl⟩) ?_
  refine tk (fun wx HS => rLd (HS.at 4 rfl) 0 rfl rfl rfl ⟨rfl, rfl⟩) ?_
  refine tk (fun wx HS => rFieldAt rfl ⟨rfl, rfl⟩) ?_
  refine tk (fun wx HS => rLd (HS.at 0 rfl) 1 rfl rfl rfl ⟨rfl, rfl⟩) ?_
  refine tk (fun wx HS => rFieldAt rfl ⟨rfl, rfl⟩) ?_
  refine tk (fun wx HS => rLd (HS.at 0 rfl) 2 rfl rfl rfl ⟨rfl, rfl⟩) ?_
  refine tk (fun wx HS => rFieldAt rfl ⟨rfl, rfl⟩) ?_
  refine tk (fun wx HS => rLd (HS.at 0 rfl) 4 rfl rfl rfl ⟨rfl, rfl⟩) ?_
  refine tk (fun wx HS => rBuild rfl rfl rfl ⟨rfl, rfl⟩) ?_
  refine rBuildSliceS H rfl rfl rfl rfl ?_
  clear H
  intro p3 w2 H
  clear w3
  refine KeepP.mk (H.drop 0 (fun H => H)) ?_
  refine rApS (ys := [⟨_, _, _, _, _⟩]) 24 H 4 rfl (H.at 0 rfl) rfl (fun y _ => rfl) rfl rfl rfl (by omega) (by omega) ?_
  intro v2
  clear H
  intro w3 H
  clear w2
  refine tk (fun wx HS => rFieldAt rfl ⟨rfl, rfl⟩) ?_
  refine rStS H 2 rfl rfl rfl (H.one 4 rfl) ?_
  clear H
  intro w2 H
  clear w3
  refine Done.mk ?_
  refine ⟨vs'1, v2, st'1, List.take (op.length - 1) op ++ [{ op := 5, kind := p.2, base := p.3, dead := false, under := p.5 }], b'1, ?_⟩
  refine ⟨?_, ?_⟩
  · exact c5 (else2 hp h1 (by assumption))
  refine ⟨?_, ?_⟩
  · exact hso ▸ h2.same hp rfl
  refine ⟨?_, ?_⟩
  · omega
  refine H.fronts [4, 4, 4] ?_
  clear H
  intro H
  refine H.drop 5 ?_
  clear H
  intro H
  refine H.drop 4 ?_
  clear H
  intro H
  refine H.drop 3 ?_
  clear H
  intro H
  exact H

theorem fail_ne {b' : Int} (h : Is (failS ⟨st, op, b⟩ 10) ⟨st, op, b'⟩) : b' ≠ 0 := by
  unfold Is failS at h
  split at h
  · injection h with _ _ h; rw [h]; decide
  · rename_i hb; injection h with _ _ h; rw [h]; exact hb
theorem endA {b' b'' : Int} {st' : List Int} {p : PartD} (hp : op[op.length - 1]? = some p) (h : Is (closeS ⟨st, op, b⟩) ⟨st', op, b'⟩) (hpk : p.op = 4 ∧ p.kind ≠ 64) (h2 : Is (failS ⟨st', op, b'⟩ 10) ⟨st', op, b''⟩) : Is (endS ⟨st, op, b⟩) ⟨st', op, b''⟩ := by
  have hb := fail_ne h2
  unfold Is at *; unfold endS; simp only; rw [← h, topS_of hp, if_pos hpk, ← h2]
  exact (if_neg hb).symm
theorem endB {b' : Int} {st' : List Int} {p : PartD} (hp : op[op.length - 1]? = some p) (h : Is (closeS ⟨st, op, b⟩) ⟨st', op, b'⟩) (hpk : ¬ (p.op = 4 ∧ p.kind ≠ 64)) (hb : b' ≠ 0) : Is (endS ⟨st, op, b⟩) ⟨st', op, b'⟩ := by
  unfold Is at *; unfold endS; simp only; rw [← h, topS_of hp, if_neg hpk]
  exact (if_neg hb).symm
theorem endC {b' : Int} {st' st'' : List Int} {p : PartD} (hp : op[op.length - 1]? = some p) (h : Is (closeS ⟨st, op, b⟩) ⟨st', op, b'⟩) (hpk : ¬ (p.op = 4 ∧ p.kind ≠ 64)) (hb : b' = 0) (h3 : Is (pushS ⟨st', op.take (op.length - 1), b'⟩ p.kind) ⟨st'', op.take (op.length - 1), b'⟩) : Is (endS ⟨st, op, b⟩) ⟨st'', op.take (op.length - 1), b'⟩ := by
  unfold Is at *; unfold endS; simp only; rw [← h, topS_of hp, if_neg hpk]
  simp only
  rw [if_pos hb, ← h3]
theorem ctl11 (H : Sat g w (Pt pc [m.vt, m.vm, m.vf, .int .i64 m.table, .int .i64 m.pages, .int .i64 m.most, m.vg, m.vx, .int .i64 m.start, m.ve, m.vd, vl, vs, vo, .int .i64 b] 131 :: Sl 98 1 enK vs st :: Sl 136 5 enPt vo op :: l)) (a bb : Int) (tv : Value) (tt : List Int) (ht : FSl g enI okI 1 tv tt) (hn : 0 < op.length) (hop : op.length ≤ 99) (hst : st.length ≤ 90000) (hok : Okc st op) : Fc Tryz.prog 96 #[.pointer (some ⟨pc, 0, none⟩), .agg #[.int .u8 11, .int .i64 a, .int .i64 bb, tv]] w (fun r w' => ∃ vs' vo' st' op' b', Is (controlS ⟨st, op, b⟩ ⟨11, a, bb, tt⟩) ⟨st', op', b'⟩ ∧ Okc st' op' ∧ st'.length ≤ st.length + 1 ∧ Sat g w' (Pt pc [m.vt, m.vm, m.vf, .int .i64 m.table, .int .i64 m.pages, .int .i64 m.most, m.vg, m.vx, .int .i64 m.start, m.ve, m.vd, vl, vs', vo', .int .i64 b'] 131 :: Sl 98 1 enK vs' st' :: Sl 136 5 enPt vo' op' :: l)) := by
  obtain ⟨p, hp⟩ : ∃ p, op[op.length - 1]? = some p := ⟨_, List.getElem?_eq_getElem (by omega)⟩
  by_cases hpk : p.op = 4 ∧ p.kind ≠ 64
  · obtain ⟨hpo, hpk2⟩ := hpk
    refine Fc.of Tryz.func96 rfl (by kernel_rfl) ?_
    refine rBoxS H ?_
    clear H
    intro p1 w1 H
    refine rFieldAt rfl ?_
    refine rLd (H.at 0 rfl) 0 rfl rfl rfl ?_
    refine bk ?_
    refine cF (vEq_F (by omega)) ?_
    refine cF (vEq_F (by omega)) ?_
    refine cF (vEq_F (by omega)) ?_
    refine cF (vEq_F (by omega)) ?_
    refine cF (vEq_F (by omega)) ?_
    refine cT (vEq_T (by omega)) ?_
    refine H.fronts [3, 3, 3] ?_
    clear H
    intro H
    refine CallP.mk (Fc.imp (Go.Proofs.YtndhikahjmgamaaGreatDoor.Valid.close H _ hp ?_ ?_ ?_ ?_) ?_)
    · assumption
    · omega
    · omega
    · assumption
    clear H
    rintro _ w2 ⟨vs'1, ⟨st'1, ⟨b'1, ⟨rfl, ⟨h1, ⟨h2, ⟨h3, H⟩⟩⟩⟩⟩⟩⟩
    refine rAllocS H rfl ?_
    clear H
    intro p2 w3 H
    clear w2
    refine rStAS H 0 rfl rfl rfl rfl ?_
    clear H
    intro w2 H
    clear w3
    refine rFieldAt rfl ?_
    refine rLd (H.at 0 rfl) 0 rfl rfl rfl ?_
    refine br_t (vEq_T (by assumption)) ?_
    refine rFieldAt rfl ?_
    refine rLd (H.at 0 rfl) 1 rfl rfl rfl ?_
    refine cT (vNe_T (by assumption)) ?_
    refine H.fronts [3, 3, 3] ?_
    clear H
    intro H
    refine CallP.mk (Fc.imp (Go.Proofs.YtndhikahjmgamaaGreatDoor.Valid.fail H _) ?_)
    clear H
    rintro v' w3 ⟨b'2, ⟨h4, H⟩⟩
    have hbb := fail_ne h4
    refine rFieldAt rfl ?_
    refine rLd (H.at 0 rfl) 14 rfl rfl rfl ?_
    refine cF (vEq_F (by assumption)) ?_
    refine Done.mk ?_
    refine ⟨vs'1, vo, st'1, op, b'2, ?_⟩
    refine ⟨?_, ?_⟩
    · exact c11 (endA hp h1 ⟨hpo, hpk2⟩ h4)
    refine ⟨?_, ?_⟩
    · assumption
    refine ⟨?_, ?_⟩
    · omega
    refine H.drop 4 ?_
    clear H
    intro H
    refine H.drop 3 ?_
    clear H
    intro H
    exact H
  · refine Fc.of Tryz.func96 rfl (by kernel_rfl) ?_
    refine rBoxS H ?_
    clear H
    intro p1 w1 H
    refine rFieldAt rfl ?_
    refine rLd (H.at 0 rfl) 0 rfl rfl rfl ?_
    refine bk ?_
    refine cF (vEq_F (by omega)) ?_
    refine cF (vEq_F (by omega)) ?_
    refine cF (vEq_F (by omega)) ?_
    refine cF (vEq_F (by omega)) ?_
    refine cF (vEq_F (by omega)) ?_
    refine cT (vEq_T (by omega)) ?_
    refine H.fronts [3, 3, 3] ?_
    clear H
    intro H
    refine CallP.mk (Fc.imp (Go.Proofs.YtndhikahjmgamaaGreatDoor.Valid.close H _ hp ?_ ?_ ?_ ?_) ?_)
    · assumption
    · omega
    · omega
    · assumption
    clear H
    rintro _ w2 ⟨vs'1, ⟨st'1, ⟨b'1, ⟨rfl, ⟨h1, ⟨h2, ⟨h3, H⟩⟩⟩⟩⟩⟩⟩
    refine rAllocS H rfl ?_
    clear H
    intro p2 w3 H
    clear w2
    refine rStAS H 0 rfl rfl rfl rfl ?_
    clear H
    intro w2 H
    clear w3
    refine rFieldAt rfl ?_
    refine rLd (H.at 0 rfl) 0 rfl rfl rfl ?_
    refine br (fun c1 => ?_) (fun c1 => ?_)
    focus
      replace c1 := vEq_t (c1)
      refine rFieldAt rfl ?_
      refine rLd (H.at 0 rfl) 1 rfl rfl rfl ?_
      refine cF (vNe_F (by omega)) ?_
      refine rFieldAt rfl ?_
      refine rLd (H.at 1 rfl) 14 rfl rfl rfl ?_
      refine cI (fun c2 => ?_) (fun c2 => ?_)
      rotate_left
      · replace c2 := vEq_f (c2)
        refine Done.mk ?_
        refine ⟨vs'1, vo, st'1, op, b'1, ?_⟩
        refine ⟨?_, ?_⟩
        · exact c11 (endB hp h1 hpk (by omega))
        refine ⟨?_, ?_⟩
        · assumption
        refine ⟨?_, ?_⟩
        · omega
        refine H.fronts [3, 3, 3] ?_
        clear H
        intro H
        refine H.drop 4 ?_
        clear H
        intro H
        refine H.drop 3 ?_
        clear H
        intro H
        exact H
      replace c2 := vEq_t (c2)
      refine drawzS H [] [(0, .pure), (1, .pure), (2, .pure), (3, .pure), (4, .held), (5, .pure), (6, .pure), (7, .pure), (8, .held), (9, .pure), (10, .pure), (11, .pure), (12, .pure), (13, .pure), (14, .free)] mixed (by kernel_rfl) (by kernel_rfl) ?_
      clear H
      intro w3 H
      clear w2
      refine tk (fun wx HS => rFieldAt rfl ⟨rfl, rfl⟩) ?_
      refine tk (fun wx HS => rLd (HS.at 1 rfl) 13 rfl rfl rfl ⟨rfl, rfl⟩) ?_
      refine tk (fun wx HS => rFieldAt rfl ⟨rfl, rfl⟩) ?_
      refine tk (fun wx HS => rLd (HS.at 1 rfl) 13 rfl rfl rfl ⟨rfl, rfl⟩) ?_
      obtain ⟨a1, c3, V1⟩ := H.form 3 rfl
      refine tk (fun wx HS => rLenV V1 rfl ⟨rfl, rfl⟩) ?_
      refine eqI64 (by omega) ?_
      obtain ⟨v1, V2⟩ := H.vw 3 rfl (0) (((op.length) - 1)) (by omega) (by omega)
      refine tk (fun wx HS => rSlVw V2 rfl rfl (.inl ⟨rfl, rfl⟩) (.inr ⟨_, by first | rfl | (congr 2; omega)⟩) ⟨rfl, rfl⟩) ?_
      refine tk (fun wx HS => rFieldAt rfl ⟨rfl, rfl⟩) ?_
      refine rStS H 1 rfl rfl rfl (by simp only [Bool.and_true, H.one 2 rfl, H.one 3 rfl, Vw.one V2, FSl.one ht]) ?_
      clear H
      intro w2 H
      clear w3
      refine rFieldAt rfl ?_
      refine rLd (H.at 0 rfl) 1 rfl rfl rfl ?_
    rotate_left 1
    focus
      replace c1 := vEq_f (c1)
      refine cF rfl ?_
      refine rFieldAt rfl ?_
      refine rLd (H.at 1 rfl) 14 rfl rfl rfl ?_
      refine cI (fun c2 => ?_) (fun c2 => ?_)
      rotate_left
      · replace c2 := vEq_f (c2)
        refine Done.mk ?_
        refine ⟨vs'1, vo, st'1, op, b'1, ?_⟩
        refine ⟨?_, ?_⟩
        · exact c11 (endB hp h1 hpk (by omega))
        refine ⟨?_, ?_⟩
        · assumption
        refine ⟨?_, ?_⟩
        · omega
        refine H.fronts [3, 3, 3] ?_
        clear H
        intro H
        refine H.drop 4 ?_
        clear H
        intro H
        refine H.drop 3 ?_
        clear H
        intro H
        exact H
      replace c2 := vEq_t (c2)
      refine drawzS H [] [(0, .pure), (1, .pure), (2, .pure), (3, .pure), (4, .held), (5, .pure), (6, .pure), (7, .pure), (8, .held), (9, .pure), (10, .pure), (11, .pure), (12, .pure), (13, .pure), (14, .free)] mixed (by kernel_rfl) (by kernel_rfl) ?_
      clear H
      intro w3 H
      clear w2
      refine tk (fun wx HS => rFieldAt rfl ⟨rfl, rfl⟩) ?_
      refine tk (fun wx HS => rLd (HS.at 1 rfl) 13 rfl rfl rfl ⟨rfl, rfl⟩) ?_
      refine tk (fun wx HS => rFieldAt rfl ⟨rfl, rfl⟩) ?_
      refine tk (fun wx HS => rLd (HS.at 1 rfl) 13 rfl rfl rfl ⟨rfl, rfl⟩) ?_
      obtain ⟨a1, c3, V1⟩ := H.form 3 rfl
      refine tk (fun wx HS => rLenV V1 rfl ⟨rfl, rfl⟩) ?_
      refine eqI64 (by omega) ?_
      obtain ⟨v1, V2⟩ := H.vw 3 rfl (0) (((op.length) - 1)) (by omega) (by omega)
      refine tk (fun wx HS => rSlVw V2 rfl rfl (.inl ⟨rfl, rfl⟩) (.inr ⟨_, by first | rfl | (congr 2; omega)⟩) ⟨rfl, rfl⟩) ?_
      refine tk (fun wx HS => rFieldAt rfl ⟨rfl, rfl⟩) ?_
      refine rStS H 1 rfl rfl rfl (by simp only [Bool.and_true, H.one 2 rfl, H.one 3 rfl, Vw.one V2, FSl.one ht]) ?_
      clear H
      intro w2 H
      clear w3
      refine rFieldAt rfl ?_
      refine rLd (H.at 0 rfl) 1 rfl rfl rfl ?_
    rotate_left 1
    · replace H := H.ofVw 3 rfl V2
      simp only [List.set_cons_succ, List.set_cons_zero] at H
      refine H.fronts [3, 3, 3] ?_
      clear H
      intro H
      refine CallP.mk (Fc.imp (Go.Proofs.YtndhikahjmgamaaGreatDoor.Valid.push H _ ?_) ?_)
      · omega
      clear H
      rintro v' w3 ⟨vs'2, ⟨st'2, ⟨h4, ⟨h5, ⟨h6, H⟩⟩⟩⟩⟩
      refine Done.mk ?_
      refine ⟨vs'2, v1, st'2, List.take (op.length - 1) op, b'1, ?_⟩
      refine ⟨?_, ?_⟩
      · exact c11 (endC hp h1 hpk (by assumption) (by assumption))
      refine ⟨?_, ?_⟩
      · exact (h2.more (by omega)).less
      refine ⟨?_, ?_⟩
      · omega
      refine H.drop 4 ?_
      clear H
      intro H
      refine H.drop 3 ?_
      clear H
      intro H
      exact H

    · replace H := H.ofVw 3 rfl V2
      simp only [List.set_cons_succ, List.set_cons_zero] at H
      refine H.fronts [3, 3, 3] ?_
      clear H
      intro H
      refine CallP.mk (Fc.imp (Go.Proofs.YtndhikahjmgamaaGreatDoor.Valid.push H _ ?_) ?_)
      · omega
      clear H
      rintro v' w3 ⟨vs'2, ⟨st'2, ⟨h4, ⟨h5, ⟨h6, H⟩⟩⟩⟩⟩
      refine Done.mk ?_
      refine ⟨vs'2, v1, st'2, List.take (op.length - 1) op, b'1, ?_⟩
      refine ⟨?_, ?_⟩
      · exact c11 (endC hp h1 hpk (by assumption) (by assumption))
      refine ⟨?_, ?_⟩
      · exact (h2.more (by omega)).less
      refine ⟨?_, ?_⟩
      · omega
      refine H.drop 4 ?_
      clear H
      intro H
      refine H.drop 3 ?_
      clear H
      intro H
      exact H

end
end Go.Proofs.YtndhikahjmgamaaGreatDoor.Valid
/- Package ins: Plain. Package valid: takes and gives of one's own, plain, value. -/
set_option maxRecDepth 100000
set_option maxHeartbeats 4000000
set_option linter.unusedVariables false
set_option linter.unusedSimpArgs false
namespace Go.Proofs.YtndhikahjmgamaaGreatDoor.Valid
open Go Go.Proofs.YtndhikahjmgamaaGreatDoor.Eng Go.RowKit
open Ins Nest Leb Bin
theorem kindAt1 (o : Int) (w : World) : Fc Tryz.prog 114 #[.int .u8 o] w (fun v w' => (∃ r, v = .int .u8 r ∧ r = kindAt o) ∧ w = w') := by
  refine Fc.of Tryz.func114 rfl (by kernel_rfl) ?_
  have H := Sat.start w
  refine bk ?_
  refine cI (fun c1 => ?_) (fun c1 => ?_)
  · replace c1 := vEq_t (c1)
    refine cT (vEq_T (by assumption)) ?_
    refine Done.mk ?_
    refine ⟨?_, ?_⟩
    · refine ⟨127, ?_⟩
      refine ⟨?_, ?_⟩
      · refine int_eq ?_
        omega
      exact (if_pos (by omega)).symm
    rfl
  replace c1 := vEq_f (c1)
  refine cI (fun c2 => ?_) (fun c2 => ?_)
  · replace c2 := vEq_t (c2)
    refine cT (vEq_T (by assumption)) ?_
    refine Done.mk ?_
    refine ⟨?_, ?_⟩
    · refine ⟨127, ?_⟩
      refine ⟨?_, ?_⟩
      · refine int_eq ?_
        omega
      exact (if_pos (by omega)).symm
    rfl
  replace c2 := vEq_f (c2)
  refine cI (fun c3 => ?_) (fun c3 => ?_)
  · replace c3 := vEq_t (c3)
    refine cT (vEq_T (by assumption)) ?_
    refine Done.mk ?_
    refine ⟨?_, ?_⟩
    · refine ⟨127, ?_⟩
      refine ⟨?_, ?_⟩
      · refine int_eq ?_
        omega
      exact (if_pos (by omega)).symm
    rfl
  replace c3 := vEq_f (c3)
  refine cI (fun c4 => ?_) (fun c4 => ?_)
  · replace c4 := vEq_t (c4)
    refine cT (vEq_T (by assumption)) ?_
    refine Done.mk ?_
    refine ⟨?_, ?_⟩
    · refine ⟨127, ?_⟩
      refine ⟨?_, ?_⟩
      · refine int_eq ?_
        omega
      exact (if_pos (by omega)).symm
    rfl
  replace c4 := vEq_f (c4)
  refine cI (fun c5 => ?_) (fun c5 => ?_)
  · replace c5 := vEq_t (c5)
    refine cT (vEq_T (by assumption)) ?_
    refine Done.mk ?_
    refine ⟨?_, ?_⟩
    · refine ⟨127, ?_⟩
      refine ⟨?_, ?_⟩
      · refine int_eq ?_
        omega
      exact (if_pos (by omega)).symm
    rfl
  replace c5 := vEq_f (c5)
  refine cI (fun c6 => ?_) (fun c6 => ?_)
  · replace c6 := vEq_t (c6)
    refine cT (vEq_T (by assumption)) ?_
    refine Done.mk ?_
    refine ⟨?_, ?_⟩
    · refine ⟨127, ?_⟩
      refine ⟨?_, ?_⟩
      · refine int_eq ?_
        omega
      exact (if_pos (by omega)).symm
    rfl
  replace c6 := vEq_f (c6)
  refine cI (fun c7 => ?_) (fun c7 => ?_)
  · replace c7 := vEq_t (c7)
    refine cT (vEq_T (by assumption)) ?_
    refine Done.mk ?_
    refine ⟨?_, ?_⟩
    · refine ⟨127, ?_⟩
      refine ⟨?_, ?_⟩
      · refine int_eq ?_
        omega
      exact (if_pos (by omega)).symm
    rfl
  replace c7 := vEq_f (c7)
  refine cI (fun c8 => ?_) (fun c8 => ?_)
  · replace c8 := vEq_t (c8)
    refine Done.mk ?_
    refine ⟨?_, ?_⟩
    · refine ⟨127, ?_⟩
      refine ⟨?_, ?_⟩
      · refine int_eq ?_
        omega
      exact (if_pos (by omega)).symm
    rfl
  replace c8 := vEq_f (c8)
  refine Done.mk ?_
  refine ⟨?_, ?_⟩
  · refine ⟨126, ?_⟩
    refine ⟨?_, ?_⟩
    · refine int_eq ?_
      omega
    exact (if_neg (by omega)).symm
  rfl
section
variable {o k : Int} {xs : List Int} {b : Bool}
theorem plnA (h : numS o = (xs, k, b)) (hb : b = true) : plnS o = (xs, [k], true) := by
  unfold plnS; rw [h]; exact if_pos hb
theorem plnN (h : numS o = (xs, k, b)) (hb : b = false) : plnS o = if 0 < wid o ∧ o < 54 then ([127], [kindAt o], true) else if 0 < wid o then ([127, kindAt o], [], true) else if o = 63 then ([], [127], true) else if o = 64 then ([127], [127], true) else if o = 65 then ([], [127], true) else if o = 66 then ([], [126], true) else ([], [], false) := by
  unfold plnS; rw [h]; exact if_neg (by simp [hb])
end
theorem plain_ (o : Int) (w : World) : Fc Tryz.prog 70 #[.int .u8 o] w (fun v w' => ∃ u y xs ys q, v = .tuple #[u, y, .bool q] ∧ plnS o = (xs, ys, q) ∧ Sat (froz w) w' [Sl 98 1 enK y ys, Sl 98 1 enK u xs]) := by
  refine Fc.of Tryz.func70 rfl (by kernel_rfl) ?_
  have H := Sat.start w
  refine CallP.mk (Fc.imp (Go.Proofs.YtndhikahjmgamaaGreatDoor.Ins.numeric _ _) ?_)
  rintro _ w1 ⟨u1, ⟨k1, ⟨b1, ⟨xs1, ⟨rfl, ⟨h1, H'⟩⟩⟩⟩⟩⟩
  refine H.mergeK H' ?_
  clear H H'
  intro H
  refine cI (fun c1 => ?_) (fun c1 => ?_)
  · refine rBuildSliceS H rfl rfl rfl rfl ?_
    clear H
    intro p1 w2 H
    clear w1
    refine Done.mk ?_
    (refine H.ptSl (n := 1) (en := enK) (s := 1) 0 rfl [_] rfl rfl (fun _ => rfl) rfl ?_; intro H; exact ⟨_, _, _, _, _, rfl, plnA h1 (by assumption), H⟩)
  refine bk ?_
  refine CallP.mk (Fc.imp (Go.Proofs.YtndhikahjmgamaaGreatDoor.Ins.width _ _) ?_)
  rintro _ _ ⟨⟨r1, ⟨rfl, h2⟩⟩, rfl⟩
  refine br (fun c2 => ?_) (fun c2 => ?_)
  · replace c2 := vLt_t (c2)
    refine cI (fun c3 => ?_) (fun c3 => ?_)
    · replace c3 := vLt_t (c3)
      refine rBuildSliceS H rfl rfl rfl rfl ?_
      clear H
      intro p1 w2 H
      clear w1
      refine CallP.mk (Fc.imp (Go.Proofs.YtndhikahjmgamaaGreatDoor.Valid.kindAt1 _ _) ?_)
      rintro _ _ ⟨⟨r2, ⟨rfl, h3⟩⟩, rfl⟩
      refine rBuildSliceS H rfl rfl rfl rfl ?_
      clear H
      intro p2 w1 H
      clear w2
      refine Done.mk ?_
      (refine H.ptSl (n := 1) (en := enK) (s := 1) 0 rfl [_] rfl rfl (fun _ => rfl) rfl ?_; intro H; refine H.ptSl (n := 1) (en := enK) (s := 1) 1 rfl [_] rfl rfl (fun _ => rfl) rfl ?_; intro H; exact ⟨_, _, _, _, _, rfl, (plnN h1 (by assumption)).trans (by repeat first | rw [if_pos (by omega)] | rw [if_neg (by omega)] | (subst_vars; rfl)), H.del 2⟩)
    replace c3 := vLt_f (c3)
    refine CallP.mk (Fc.imp (Go.Proofs.YtndhikahjmgamaaGreatDoor.Ins.width _ _) ?_)
    rintro _ _ ⟨⟨r2, ⟨rfl, h3⟩⟩, rfl⟩
    refine cT (vLt_T (by omega)) ?_
    refine CallP.mk (Fc.imp (Go.Proofs.YtndhikahjmgamaaGreatDoor.Valid.kindAt1 _ _) ?_)
    rintro _ _ ⟨⟨r3, ⟨rfl, h4⟩⟩, rfl⟩
    refine rBuildSliceS H rfl rfl rfl rfl ?_
    clear H
    intro p1 w2 H
    clear w1
    refine Done.mk ?_
    (refine H.ptSl (n := 2) (en := enK) (s := 1) 0 rfl [_, _] rfl rfl (fun _ => rfl) rfl ?_; intro H; exact ⟨_, _, _, _, _, rfl, (plnN h1 (by assumption)).trans (by repeat first | rw [if_pos (by omega)] | rw [if_neg (by omega)] | (subst_vars; rfl)), (H.sl0 (en := enK) (s := 1) 98 (fun _ => rfl)).del 2⟩)
  replace c2 := vLt_f (c2)
  refine cF rfl ?_
  refine CallP.mk (Fc.imp (Go.Proofs.YtndhikahjmgamaaGreatDoor.Ins.width _ _) ?_)
  rintro _ _ ⟨⟨r2, ⟨rfl, h3⟩⟩, rfl⟩
  refine cF (vLt_F (by omega)) ?_
  refine cI (fun c3 => ?_) (fun c3 => ?_)
  · replace c3 := vEq_t (c3)
    refine rBuildSliceS H rfl rfl rfl rfl ?_
    clear H
    intro p1 w2 H
    clear w1
    refine Done.mk ?_
    (refine H.ptSl (n := 1) (en := enK) (s := 1) 0 rfl [_] rfl rfl (fun _ => rfl) rfl ?_; intro H; exact ⟨_, _, _, _, _, rfl, (plnN h1 (by assumption)).trans (by repeat first | rw [if_pos (by omega)] | rw [if_neg (by omega)] | (subst_vars; rfl)), ((H.sl0 (en := enK) (s := 1) 98 (fun _ => rfl)).front (j := 1) rfl).del 2⟩)
  replace c3 := vEq_f (c3)
  refine cI (fun c4 => ?_) (fun c4 => ?_)
  · replace c4 := vEq_t (c4)
    refine rBuildSliceS H rfl rfl rfl rfl ?_
    clear H
    intro p1 w2 H
    clear w1
    refine rBuildSliceS H rfl rfl rfl rfl ?_
    clear H
    intro p2 w1 H
    clear w2
    refine Done.mk ?_
    (refine H.ptSl (n := 1) (en := enK) (s := 1) 0 rfl [_] rfl rfl (fun _ => rfl) rfl ?_; intro H; refine H.ptSl (n := 1) (en := enK) (s := 1) 1 rfl [_] rfl rfl (fun _ => rfl) rfl ?_; intro H; exact ⟨_, _, _, _, _, rfl, (plnN h1 (by assumption)).trans (by repeat first | rw [if_pos (by omega)] | rw [if_neg (by omega)] | (subst_vars; rfl)), H.del 2⟩)
  replace c4 := vEq_f (c4)
  refine cI (fun c5 => ?_) (fun c5 => ?_)
  · replace c5 := vEq_t (c5)
    refine rBuildSliceS H rfl rfl rfl rfl ?_
    clear H
    intro p1 w2 H
    clear w1
    refine Done.mk ?_
    (refine H.ptSl (n := 1) (en := enK) (s := 1) 0 rfl [_] rfl rfl (fun _ => rfl) rfl ?_; intro H; exact ⟨_, _, _, _, _, rfl, (plnN h1 (by assumption)).trans (by repeat first | rw [if_pos (by omega)] | rw [if_neg (by omega)] | (subst_vars; rfl)), ((H.sl0 (en := enK) (s := 1) 98 (fun _ => rfl)).front (j := 1) rfl).del 2⟩)
  replace c5 := vEq_f (c5)
  refine cI (fun c6 => ?_) (fun c6 => ?_)
  · replace c6 := vEq_t (c6)
    refine rBuildSliceS H rfl rfl rfl rfl ?_
    clear H
    intro p1 w2 H
    clear w1
    refine Done.mk ?_
    (refine H.ptSl (n := 1) (en := enK) (s := 1) 0 rfl [_] rfl rfl (fun _ => rfl) rfl ?_; intro H; exact ⟨_, _, _, _, _, rfl, (plnN h1 (by assumption)).trans (by repeat first | rw [if_pos (by omega)] | rw [if_neg (by omega)] | (subst_vars; rfl)), ((H.sl0 (en := enK) (s := 1) 98 (fun _ => rfl)).front (j := 1) rfl).del 2⟩)
  replace c6 := vEq_f (c6)
  refine Done.mk ?_
  exact ⟨_, _, _, _, _, rfl, (plnN h1 (by assumption)).trans (by repeat first | rw [if_pos (by omega)] | rw [if_neg (by omega)] | (subst_vars; rfl)), ((H.sl0 (en := enK) (s := 1) 98 (fun _ => rfl)).sl0 (en := enK) (s := 1) 98 (fun _ => rfl)).del 2⟩

section
variable {g : Glob} {w : World} {l : List As} {pc : Nat} {m : ModV} {vl vs vo : Value} {st : List Int} {op : List PartD} {b : Int}
theorem takesP (v : Value) (xs : List Int) (H : Sat g w (Pt pc [m.vt, m.vm, m.vf, .int .i64 m.table, .int .i64 m.pages, .int .i64 m.most, m.vg, m.vx, .int .i64 m.start, m.ve, m.vd, vl, vs, vo, .int .i64 b] 131 :: Sl 98 1 enK vs st :: Sl 136 5 enPt vo op :: Sl 98 1 enK v xs :: l)) (hl : xs.length ≤ 1000) (hn : 0 < op.length) (hop : op.length ≤ 100) (hst : st.length ≤ 90000) (hok : Okc st op) : Fc Tryz.prog 136 #[.pointer (some ⟨pc, 0, none⟩), v] w (fun r w' => ∃ vs' st' b', Is (takesS ⟨st, op, b⟩ xs) ⟨st', op, b'⟩ ∧ Okc st' op ∧ st'.length ≤ st.length ∧ Sat g w' (Pt pc [m.vt, m.vm, m.vf, .int .i64 m.table, .int .i64 m.pages, .int .i64 m.most, m.vg, m.vx, .int .i64 m.start, m.ve, m.vd, vl, vs', vo, .int .i64 b'] 131 :: Sl 98 1 enK vs' st' :: Sl 136 5 enPt vo op :: Sl 98 1 enK v xs :: l)) := by
  refine Fc.of Tryz.func136 rfl (by kernel_rfl) ?_
  refine rLenS H 3 rfl rfl ?_
  refine eqI64 (by omega) ?_
  refine LoopP.rule (α := Nat × List Int × Int × Value) (xs.length, st, b, vs) (fun x_ => [(4, .int .i64 ((x_.1 : Int) - 1))]) (fun x_ w_ => (x_.1 ≤ xs.length) ∧ (Is (takesS ⟨st, op, b⟩ (xs.drop x_.1)) ⟨x_.2.1, op, x_.2.2.1⟩) ∧ (Okc x_.2.1 op) ∧ (x_.2.1.length ≤ st.length) ∧ Sat g w_ ((Pt pc [m.vt, m.vm, m.vf, .int .i64 m.table, .int .i64 m.pages, .int .i64 m.most, m.vg, m.vx, .int .i64 m.start, m.ve, m.vd, vl, x_.2.2.2, vo, .int .i64 x_.2.2.1] 131 :: Sl 98 1 enK x_.2.2.2 x_.2.1 :: Sl 136 5 enPt vo op :: Sl 98 1 enK v xs :: l))) (fun x_ => x_.1) ?_ ?_ ?_
  · repeat first | exact mt_nil | refine mt_cons rfl ?_ | refine mt_i rfl (by first | omega | (simp only; omega) | (simp; omega) | (simp; done)) ?_
  · try simp only
    refine ⟨?_, ?_⟩
    · omega
    refine ⟨?_, ?_⟩
    · exact take0 (Nat.le_refl _)
    refine ⟨?_, ?_⟩
    · assumption
    refine ⟨?_, ?_⟩
    · omega
    exact H
  clear H
  rintro ⟨i, s1, b1, u1⟩ f_ w_ ⟨hi, ht, ho, hs, H⟩
  try simp only at hi ht ho hs H ⊢
  rcases Nat.eq_zero_or_pos i with h0 | h0
  · subst h0
    refine cF (vLe_F (by omega)) ?_
    refine Done.mk ?_
    refine ⟨u1, s1, b1, ?_⟩
    refine ⟨?_, ?_⟩
    · assumption
    refine ⟨?_, ?_⟩
    · assumption
    refine ⟨?_, ?_⟩
    · assumption
    exact H
  · obtain ⟨j, rfl⟩ : ∃ j, i = j + 1 := ⟨i - 1, by omega⟩
    have e : ((j + 1 : Nat) : Int) - 1 = (j : Int) := by omega
    rw [e]
    obtain ⟨k, hk⟩ : ∃ k, xs[j]? = some k := ⟨_, List.getElem?_eq_getElem (by omega)⟩
    refine cT (vLe_T (by omega)) ?_
    refine bk ?_
    obtain ⟨b2, o1, E1⟩ := H.elt 3 rfl (j) (by omega)
    refine rIxE E1 rfl rfl rfl ?_
    refine rLd (H.el 3 rfl E1 hk) 0 rfl rfl rfl ?_
    refine CallP.mk (Fc.imp (Go.Proofs.YtndhikahjmgamaaGreatDoor.Valid.pop H _ ?_ ?_ ?_ ?_) ?_)
    · assumption
    · assumption
    · omega
    · assumption
    clear H
    rintro _ w1 ⟨k1, ⟨vs'1, ⟨st'1, ⟨b'1, ⟨rfl, ⟨h1, ⟨h2, ⟨h3, H⟩⟩⟩⟩⟩⟩⟩⟩
    refine eqI64 (by omega) ?_
    refine Nxt.mk ((j, st'1, b'1, vs'1)) (mt_cons rfl (mt_nil)) ?_ ?_
    · refine ⟨?_, ?_⟩
      · omega
      refine ⟨?_, ?_⟩
      · exact take1 hk ht (by assumption)
      refine ⟨?_, ?_⟩
      · assumption
      refine ⟨?_, ?_⟩
      · (simp only [List.length_append, List.length_set, List.length_cons, List.length_nil]; omega)
      exact H
    omega
theorem givesP (v : Value) (xs : List Int) (H : Sat g w (Pt pc [m.vt, m.vm, m.vf, .int .i64 m.table, .int .i64 m.pages, .int .i64 m.most, m.vg, m.vx, .int .i64 m.start, m.ve, m.vd, vl, vs, vo, .int .i64 b] 131 :: Sl 98 1 enK vs st :: Sl 136 5 enPt vo op :: Sl 98 1 enK v xs :: l)) (hl : xs.length ≤ 1000) (hst : st.length ≤ 90000) : Fc Tryz.prog 137 #[.pointer (some ⟨pc, 0, none⟩), v] w (fun r w' => ∃ vs' st', Is (givesS ⟨st, op, b⟩ xs) ⟨st', op, b⟩ ∧ st.length ≤ st'.length ∧ st'.length ≤ st.length + xs.length ∧ Sat g w' (Pt pc [m.vt, m.vm, m.vf, .int .i64 m.table, .int .i64 m.pages, .int .i64 m.most, m.vg, m.vx, .int .i64 m.start, m.ve, m.vd, vl, vs', vo, .int .i64 b] 131 :: Sl 98 1 enK vs' st' :: Sl 136 5 enPt vo op :: Sl 98 1 enK v xs :: l)) := by
  refine Fc.of Tryz.func137 rfl (by kernel_rfl) ?_
  refine rLenS H 3 rfl rfl ?_
  refine LoopP.rule (α := Nat × List Int × Value) (0, st, vs) (fun x_ => [(8, .int .i64 x_.1)]) (fun x_ w_ => (x_.1 ≤ xs.length) ∧ (GI st op b xs x_.1 x_.2.1) ∧ (st.length ≤ x_.2.1.length ∧ x_.2.1.length ≤ st.length + x_.1) ∧ Sat g w_ ((Pt pc [m.vt, m.vm, m.vf, .int .i64 m.table, .int .i64 m.pages, .int .i64 m.most, m.vg, m.vx, .int .i64 m.start, m.ve, m.vd, vl, x_.2.2, vo, .int .i64 b] 131 :: Sl 98 1 enK x_.2.2 x_.2.1 :: Sl 136 5 enPt vo op :: Sl 98 1 enK v xs :: l))) (fun x_ => xs.length - x_.1) ?_ ?_ ?_
  · repeat first | exact mt_nil | refine mt_cons rfl ?_ | refine mt_i rfl (by first | omega | (simp only; omega) | (simp; omega) | (simp; done)) ?_
  · try simp only
    refine ⟨?_, ?_⟩
    · omega
    refine ⟨?_, ?_⟩
    · exact GI.zero
    refine ⟨?_, ?_⟩
    · refine ⟨?_, ?_⟩
      · omega
      omega
    exact H
  clear H
  rintro ⟨i, s1, u1⟩ f_ w_ ⟨hi, hg, hs, H⟩
  try simp only at hi hg hs H ⊢
  refine cI (fun c1 => ?_) (fun c1 => ?_)
  · replace c1 := vLt_t (c1)
    refine bk ?_
    obtain ⟨x1, hx1⟩ : ∃ x, (xs)[(i)]? = some x := ⟨_, List.getElem?_eq_getElem (by omega)⟩
    obtain ⟨b1, o1, E1⟩ := H.elt 3 rfl (i) (by omega)
    refine rIxE E1 rfl rfl rfl ?_
    refine rLd (H.el 3 rfl E1 hx1) 0 rfl rfl rfl ?_
    refine CallP.mk (Fc.imp (Go.Proofs.YtndhikahjmgamaaGreatDoor.Valid.push H _ ?_) ?_)
    · omega
    clear H
    rintro v' w1 ⟨vs'1, ⟨st'1, ⟨h1, ⟨h2, ⟨h3, H⟩⟩⟩⟩⟩
    refine eqI64 (by omega) ?_
    refine Nxt.mk ((i + 1, st'1, vs'1)) (mt_i rfl (by first | omega | (simp only; omega) | (simp; omega)) (mt_nil)) ?_ ?_
    · refine ⟨?_, ?_⟩
      · omega
      refine ⟨?_, ?_⟩
      · exact GI.step hg hx1 (by assumption)
      refine ⟨?_, ?_⟩
      · refine ⟨?_, ?_⟩
        · (simp only [List.length_append, List.length_set, List.length_cons, List.length_nil]; omega)
        (simp only [List.length_append, List.length_set, List.length_cons, List.length_nil]; omega)
      exact H
    omega
  replace c1 := vLt_f (c1)
  refine Done.mk ?_
  refine ⟨u1, s1, ?_⟩
  refine ⟨?_, ?_⟩
  · exact hg.fin (by omega)
  refine ⟨?_, ?_⟩
  · omega
  refine ⟨?_, ?_⟩
  · omega
  exact H

end
end Go.Proofs.YtndhikahjmgamaaGreatDoor.Valid
