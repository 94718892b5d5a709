/- Texts of this claim, one behind the other. -/
import Derived.Shelf.Unicode.ValidAny
import Derived.Ground.NamesProg
import Derived.Test.YtbbdfhgcmkljeaaGreatDoorProg
import Derived.Test.YtbbdfhgcmkljeaaGreatDoorP2
import Derived.Test.YtbbdfhgcmkljeaaGreatDoorP3
/-
  DERIVED: THE SHELF's CONTRACTS AT THIS DUMP, IN PLAIN WORDS (tools/lay-plain.mjs out of 'TryzShelf.lean', which tools/lay-shelf.mjs wrote): THE SAME DECLARATIONS UNDER THE SAME NAMES: 'import', 'namespace', 'open', 'def', 'theorem' AND NOTHING ELSE: no command of the shelf's: FOR A HAND-IN. Each laying: the table of numbers ('.._ren') and one theorem, a field a fact of the dump's own or the kernel's comparison; each contract: ONE APPLICATION.
-/
namespace Go.Proofs
open Go.Shelf
def Tryz.lays196_ren : Go.Shelf.Ren := ⟨fun | 196 => 93 | 259 => 105 | n => n, fun | 9 => 9 | 4 => 4 | 3 => 3 | 5 => 5 | 12 => 12 | 119 => 170 | 0 => 0 | 46 => 151 | 139 => 173 | 138 => 172 | 53 => 44 | n => n, fun | 3 => 0 | 4 => 1 | n => n⟩
theorem Tryz.lays196 : Go.Proofs.Lays.n196 Tryz.prog Tryz.lays196_ren := {
  mixed := by kernel_rfl
  f196 := Tryz.func93.trans (congrArg some (by kernel_rfl))
  f259 := Tryz.func105.trans (congrArg some (by kernel_rfl))
  t0 := Tryz.underlying0
  a0 := Tryz.isAgg0
  z0 := Tryz.sizeOf0
  v0 := Tryz.zeroValue0
  t3 := Tryz.underlying3
  a3 := Tryz.isAgg3
  z3 := Tryz.sizeOf3
  v3 := Tryz.zeroValue3
  t4 := Tryz.underlying4
  a4 := Tryz.isAgg4
  z4 := Tryz.sizeOf4
  v4 := Tryz.zeroValue4
  t5 := Tryz.underlying5
  a5 := Tryz.isAgg5
  z5 := Tryz.sizeOf5
  v5 := Tryz.zeroValue5
  t9 := Tryz.underlying9
  a9 := Tryz.isAgg9
  z9 := Tryz.sizeOf9
  v9 := Tryz.zeroValue9
  t12 := Tryz.underlying12
  a12 := Tryz.isAgg12
  z12 := Tryz.sizeOf12
  v12 := Tryz.zeroValue12
  t46 := Tryz.underlying151
  a46 := Tryz.isAgg151
  z46 := Tryz.sizeOf151
  v46 := Tryz.zeroValue151
  t53 := Tryz.underlying44
  a53 := Tryz.isAgg44
  z53 := Tryz.sizeOf44
  v53 := Tryz.zeroValue44
  t119 := Tryz.underlying170
  a119 := Tryz.isAgg170
  z119 := Tryz.sizeOf170
  t138 := Tryz.underlying172
  a138 := Tryz.isAgg172
  z138 := Tryz.sizeOf172
  v138 := Tryz.zeroValue172
  t139 := Tryz.underlying173
  a139 := Tryz.isAgg173
  z139 := Tryz.sizeOf173
  v139 := Tryz.zeroValue173
  g3 := by kernel_rfl
  g4 := by kernel_rfl }
open Go.RowKit Go.Lib in
/-- x -/
theorem Tryz.utf8_ValidString (s : ByteArray) (w : World) (hs : s.size ≤ 9223372036854775807) (hT : Lib.Utf8Tabs (Tryz.lays196_ren.g 3) (Tryz.lays196_ren.g 4) w) :
    Calls Tryz.prog (Tryz.lays196_ren.f 196) #[.string s] w fun e w' => e = .returned (.bool (Lib.validD s.data.toList)) ∧ Below w.heap.size w w' := Any.utf8_ValidString Tryz.lays196 s w hs hT
end Go.Proofs
/- Package leb: names that are written; utf8.ValidString. -/
set_option maxRecDepth 100000
set_option maxHeartbeats 4000000
set_option linter.unusedVariables false
set_option linter.unusedSimpArgs false
namespace Go.Proofs.YtbbdfhgcmkljeaaGreatDoor.Leb
open Go Go.Proofs.YtbbdfhgcmkljeaaGreatDoor.Eng Go.RowKit
section
variable {g : Glob} {w : World} {l : List As}
/-- The tables of unicode/utf8 lie frozen. -/
def U8F (g : Glob) : Prop := ∀ (w : World) (l : List As), Sat g w l → Lib.Utf8Tabs (Tryz.lays196_ren.g 3) (Tryz.lays196_ren.g 4) w
theorem bs_list (s : List UInt8) : (bs s).data.toList = s := by unfold bs; simp
theorem validString (H : Sat g w l) (hT : U8F g) (s : List UInt8) (hs : s.length ≤ 9223372036854775807) : Fc Tryz.prog 93 #[.string (bs s)] w (fun v w' => ∃ b, v = .bool b ∧ b = Lib.validD s ∧ Sat g w' l) := by
  refine Fc.ofCalls Tryz.func93 rfl (by kernel_rfl) ?_
  refine (Tryz.utf8_ValidString (bs s) w (by rw [bs_size]; exact hs) (hT w l H)).mono ?_
  rintro e w' ⟨rfl, hb⟩
  exact ⟨_, rfl, _, rfl, by rw [bs_list], H.below hb⟩
def nameE (s : List UInt8) : Int := if 16 < s.length then 2 else if Lib.validD s = true then 0 else 4
theorem name (H : Sat g w l) (hT : U8F g) (s : List UInt8) (hs : s.length ≤ 9223372036854775807) : Fc Tryz.prog 73 #[.string (bs s)] w (fun v w' => ∃ t e, v = .tuple #[.string (bs t), .int .i64 e] ∧ e = nameE s ∧ t = (if nameE s = 0 then uleb s.length ++ s else []) ∧ t.length ≤ 30 ∧ Sat g w' l) := by
  refine Fc.of Tryz.func73 rfl (by kernel_rfl) ?_
  by_cases h16 : 16 < s.length
  · have hE : nameE s = 2 := if_pos h16
    rw [hE, if_neg (by decide)]
    refine bk ?_
    refine rLenStr rfl ?_
    refine cT (vLt_T (by omega)) ?_
    refine Done.mk ?_
    refine ⟨[], 2, ?_⟩
    refine ⟨?_, ?_⟩
    · rfl
    refine ⟨?_, ?_⟩
    · omega
    refine ⟨?_, ?_⟩
    · rfl
    refine ⟨?_, ?_⟩
    · (simp only [List.length_append, List.length_set, List.length_cons, List.length_nil]; omega)
    exact H
  · cases hv : Lib.validD s
    · have hE : nameE s = 4 := by unfold nameE; rw [if_neg h16, if_neg (by rw [hv]; decide)]
      rw [hE, if_neg (by decide)]
      refine bk ?_
      refine rLenStr rfl ?_
      refine cF (vLt_F (by omega)) ?_
      refine CallP.mk (Fc.imp (Go.Proofs.YtbbdfhgcmkljeaaGreatDoor.Leb.validString H ?_ _ ?_) ?_)
      · assumption
      · assumption
      clear H
      rintro _ w1 ⟨b1, ⟨rfl, ⟨h1, H⟩⟩⟩
      rw [hv] at h1
      subst h1
      refine cT rfl ?_
      refine Done.mk ?_
      refine ⟨[], 4, ?_⟩
      refine ⟨?_, ?_⟩
      · rfl
      refine ⟨?_, ?_⟩
      · omega
      refine ⟨?_, ?_⟩
      · rfl
      refine ⟨?_, ?_⟩
      · (simp only [List.length_append, List.length_set, List.length_cons, List.length_nil]; omega)
      exact H
    · have hE : nameE s = 0 := by unfold nameE; rw [if_neg h16, if_pos hv]
      rw [hE, if_pos rfl]
      refine bk ?_
      refine rLenStr rfl ?_
      refine cF (vLt_F (by omega)) ?_
      refine CallP.mk (Fc.imp (Go.Proofs.YtbbdfhgcmkljeaaGreatDoor.Leb.validString H ?_ _ ?_) ?_)
      · assumption
      · assumption
      clear H
      rintro _ w1 ⟨b1, ⟨rfl, ⟨h1, H⟩⟩⟩
      rw [hv] at h1
      subst h1
      refine cF rfl ?_
      refine rLenStr rfl ?_
      refine rConvU64 (by omega) rfl rfl ?_
      refine CallP.mk (Fc.imp (Go.Proofs.YtbbdfhgcmkljeaaGreatDoor.Leb.U _ (s.length) ?_ ?_ _) ?_)
      · omega
      · omega
      rintro _ w2 ⟨l1, ⟨rfl, ⟨h1, ⟨h2, H'⟩⟩⟩⟩
      refine H.mergeK H' ?_
      clear H H'
      intro H
      refine rCat (by omega) ?_
      refine Done.mk ?_
      refine ⟨l1 ++ s, 0, ?_⟩
      refine ⟨?_, ?_⟩
      · rfl
      refine ⟨?_, ?_⟩
      · omega
      refine ⟨?_, ?_⟩
      · (simp; omega)
      refine ⟨?_, ?_⟩
      · (simp only [List.length_append, List.length_set, List.length_cons, List.length_nil]; omega)
      exact H
end
end Go.Proofs.YtbbdfhgcmkljeaaGreatDoor.Leb
/- Modules: as they lie, and what is asked of them. -/
set_option maxRecDepth 100000
set_option maxHeartbeats 4000000
set_option linter.unusedVariables false
set_option linter.unusedSimpArgs false
namespace Go.Proofs.YtbbdfhgcmkljeaaGreatDoor.Bin
open Go Go.Proofs.YtbbdfhgcmkljeaaGreatDoor.Eng Go.RowKit
open Ins Nest Leb
/-- The first error. -/
def fst (a b : Int) : Int := if a = 0 then b else a
theorem fst_0 (b : Int) : fst 0 b = b := if_pos rfl
theorem fst_ne {a : Int} (b : Int) (h : a ≠ 0) : fst a b = a := if_neg h
theorem fst_z (a : Int) : fst a 0 = a := by unfold fst; split <;> simp [*]
theorem fst_assoc (a b c : Int) : fst (fst a b) c = fst a (fst b c) := by
  unfold fst
  by_cases h : a = 0
  · rw [if_pos h, if_pos h]
  · rw [if_neg h, if_neg h, if_neg h]
theorem fst_eq0 {a b : Int} : fst a b = 0 ↔ a = 0 ∧ b = 0 := by
  unfold fst
  by_cases h : a = 0
  · rw [if_pos h]; simp [h]
  · rw [if_neg h]; simp [h]
/-- The first error so far, and one more. -/
def FE (b e c : Int) : Prop := c = fst b e
theorem FE.eq {b e c : Int} (h : FE b e c) : c = fst b e := h
theorem FE.two {b c d e f : Int} (h : FE b e c) (h' : FE c f d) : FE b (fst e f) d := by
  unfold FE at *; rw [h', h, fst_assoc]
def kindE (k : Int) : Int := if k = 127 ∨ k = 126 then 0 else 1
def indexE (n : Int) : Int := if 0 ≤ n ∧ n ≤ 4294967295 then 0 else 1
def placeE (n : Int) : Int := if -2147483648 ≤ n ∧ n ≤ 2147483647 then 0 else 1
def allE {α : Type} (f : α → Int) : List α → Int
  | [] => 0
  | x :: r => fst (f x) (allE f r)
def manyE (n : Nat) (m : Int) : Int := if (n : Int) ≤ m then 0 else 2
def eachE {α : Type} (m : Int) (f : α → Int) (l : List α) : Int := fst (manyE l.length m) (allE f l)
theorem allE_map {α β : Type} (f : β → Int) (d : α → β) (l : List α) : allE f (l.map d) = allE (fun x => f (d x)) l := by
  induction l with
  | nil => rfl
  | cons x r ih => rw [List.map_cons, allE, allE, ih]
theorem eachE_map {α β : Type} (m : Int) (f : β → Int) (d : α → β) (l : List α) : eachE m f (l.map d) = eachE m (fun x => f (d x)) l := by
  unfold eachE; rw [allE_map, List.length_map]
theorem allE_0 {α : Type} {f : α → Int} {l : List α} : allE f l = 0 ↔ ∀ x ∈ l, f x = 0 := by
  induction l with
  | nil => simp [allE]
  | cons x r ih => rw [allE, fst_eq0, ih]; simp
theorem eachE_0 {α : Type} {m : Int} {f : α → Int} {l : List α} : eachE m f l = 0 ↔ (l.length : Int) ≤ m ∧ ∀ x ∈ l, f x = 0 := by
  unfold eachE manyE
  rw [fst_eq0, allE_0]
  by_cases h : (l.length : Int) ≤ m
  · rw [if_pos h]; simp [h]
  · rw [if_neg h]; simp [h]
structure SigD where
  inn : List Int
  out : List Int
structure FunD where
  ty : Int
  loc : List Int
  body : List InsD
structure ModD where
  types : List SigD
  imps : List (List UInt8 × Int)
  funcs : List FunD
  table : Int
  pages : Int
  most : Int
  globals : List (Int × Bool × Int)
  exps : List (List UInt8 × Int)
  start : Int
  elems : List (Int × List Int)
  data : List (Int × List UInt8)
def sigE (s : SigD) : Int := fst (eachE 4 kindE s.inn) (eachE 1 kindE s.out)
def impE (x : List UInt8 × Int) : Int := fst (nameE x.1) (indexE x.2)
def funE (f : FunD) : Int := fst (indexE f.ty) (fst (eachE 16 kindE f.loc) (chkB f.body))
def startE (k n : Int) : Int := if k ≠ 127 ∨ (-2147483648 ≤ n ∧ n ≤ 2147483647) then 0 else 1
def gloE (x : Int × Bool × Int) : Int := fst (kindE x.1) (startE x.1 x.2.2)
def elE (x : Int × List Int) : Int := fst (placeE x.1) (eachE 16 indexE x.2)
def datE (x : Int × List UInt8) : Int := fst (placeE x.1) (manyE x.2.length 64)
def geE (a b : Int) : Int := if a ≤ b then 0 else 1
def pagE (p m : Int) : Int := if 0 ≤ p ∧ p ≤ m then 0 else 1
def leE (a b : Int) : Int := if a ≤ b then 0 else 2
def chkM (m : ModD) : Int :=
  fst (eachE 16 sigE m.types) (fst (eachE 16 impE m.imps) (fst (eachE 16 funE m.funcs) (fst (geE 0 m.table) (fst (leE m.table 16) (fst (pagE m.pages m.most) (fst (leE m.most 8)
    (fst (eachE 8 gloE m.globals) (fst (eachE 8 impE m.exps) (fst (indexE m.start) (fst (eachE 4 elE m.elems) (eachE 4 datE m.data)))))))))))
structure SigV where
  vi : Value
  inn : List Int
  vo : Value
  out : List Int
structure FunV where
  ty : Int
  vl : Value
  loc : List Int
  vb : Value
  body : List InsV
structure ElV where
  pl : Int
  vf : Value
  fs : List Int
structure ModV where
  vt : Value
  types : List SigV
  vm : Value
  imps : List (List UInt8 × Int)
  vf : Value
  funcs : List FunV
  table : Int
  pages : Int
  most : Int
  vg : Value
  globals : List (Int × Bool × Int)
  vx : Value
  exps : List (List UInt8 × Int)
  start : Int
  ve : Value
  elems : List ElV
  vd : Value
  data : List (Int × List UInt8)
def SigV.d (x : SigV) : SigD := ⟨x.inn, x.out⟩
def FunV.d (x : FunV) : FunD := ⟨x.ty, x.loc, x.body.map InsV.d⟩
def ElV.d (x : ElV) : Int × List Int := (x.pl, x.fs)
def ModV.d (m : ModV) : ModD := ⟨m.types.map SigV.d, m.imps, m.funcs.map FunV.d, m.table, m.pages, m.most, m.globals, m.exps, m.start, m.elems.map ElV.d, m.data⟩
def enSg (x : SigV) : List Value := [x.vi, x.vo]
def enIm (x : List UInt8 × Int) : List Value := [.string (bs x.1), .int .i64 x.2]
def enFn (x : FunV) : List Value := [.int .i64 x.ty, x.vl, x.vb]
def enGl (x : Int × Bool × Int) : List Value := [.int .u8 x.1, .bool x.2.1, .int .i64 x.2.2]
def enEl (x : ElV) : List Value := [.int .i64 x.pl, x.vf]
def enDt (x : Int × List UInt8) : List Value := [.int .i64 x.1, .string (bs x.2)]
def enMd (m : ModV) : List Value := [m.vt, m.vm, m.vf, .int .i64 m.table, .int .i64 m.pages, .int .i64 m.most, m.vg, m.vx, .int .i64 m.start, m.ve, m.vd]
structure okSg (g : Glob) (x : SigV) : Prop where
  inn : FSl g enK U8 1 x.vi x.inn
  out : FSl g enK U8 1 x.vo x.out
structure okIm (x : List UInt8 × Int) : Prop where
  name : x.1.length ≤ 9223372036854775807
  ty : I64 x.2
structure okFn (g : Glob) (x : FunV) : Prop where
  ty : I64 x.ty
  loc : FSl g enK U8 1 x.vl x.loc
  body : FSl g enV (okV g) 4 x.vb x.body
structure okGl (x : Int × Bool × Int) : Prop where
  kind : U8 x.1
  start : I64 x.2.2
structure okEl (g : Glob) (x : ElV) : Prop where
  pl : I64 x.pl
  fs : FSl g enI okI 1 x.vf x.fs
structure okDt (x : Int × List UInt8) : Prop where
  pl : I64 x.1
  bytes : x.2.length ≤ 9223372036854775807
structure okMd (g : Glob) (m : ModV) : Prop where
  types : FSl g enSg (okSg g) 2 m.vt m.types
  imps : FSl g enIm okIm 2 m.vm m.imps
  funcs : FSl g enFn (okFn g) 3 m.vf m.funcs
  table : I64 m.table
  pages : I64 m.pages
  most : I64 m.most
  globals : FSl g enGl okGl 3 m.vg m.globals
  exps : FSl g enIm okIm 2 m.vx m.exps
  start : I64 m.start
  elems : FSl g enEl (okEl g) 2 m.ve m.elems
  data : FSl g enDt okDt 2 m.vd m.data
end Go.Proofs.YtbbdfhgcmkljeaaGreatDoor.Bin
/- Modules as bytes: the plain side. -/
set_option maxRecDepth 100000
set_option maxHeartbeats 4000000
set_option linter.unusedVariables false
set_option linter.unusedSimpArgs false
namespace Go.Proofs.YtbbdfhgcmkljeaaGreatDoor.Bin
open Go Go.Proofs.YtbbdfhgcmkljeaaGreatDoor.Eng Go.RowKit
open Ins Nest Leb
def numT (n : Int) : List UInt8 := uleb n.toNat
def kindsT (l : List Int) : List UInt8 := uleb l.length ++ l.map byt
def nameT (s : List UInt8) : List UInt8 := uleb s.length ++ s
def listT {α : Type} (one : α → List UInt8) (l : List α) : List UInt8 := if l = [] then [] else uleb l.length ++ l.flatMap one
def sigT (s : SigD) : List UInt8 := [96] ++ kindsT s.inn ++ kindsT s.out
def impT (x : List UInt8 × Int) : List UInt8 := [4, 104, 111, 115, 116] ++ nameT x.1 ++ [0] ++ numT x.2
def expT (x : List UInt8 × Int) : List UInt8 := nameT x.1 ++ [0] ++ numT x.2
def mutB (b : Bool) : UInt8 := if b = true then 1 else 0
def opB (k : Int) : UInt8 := if k = 127 then 65 else 66
def gloT (x : Int × Bool × Int) : List UInt8 := [byt x.1, mutB x.2.1, opB x.1] ++ sleb x.2.2 ++ [11]
def elT (x : Int × List Int) : List UInt8 := [0, 65] ++ sleb x.1 ++ [11] ++ uleb x.2.length ++ x.2.flatMap numT
def datT (x : Int × List UInt8) : List UInt8 := [0, 65] ++ sleb x.1 ++ [11] ++ uleb x.2.length ++ x.2
/-- Runs of the same. -/
def rle : List Int → List (Nat × Int)
  | [] => []
  | x :: r => match rle r with
    | [] => [(1, x)]
    | (n, y) :: q => if x = y then (n + 1, y) :: q else (1, x) :: (n, y) :: q
def runT (x : Nat × Int) : List UInt8 := uleb x.1 ++ [byt x.2]
def allT (f : FunD) : List UInt8 := uleb (rle f.loc).length ++ (rle f.loc).flatMap runT ++ txtL f.body
def codeT (f : FunD) : List UInt8 := uleb (allT f).length ++ allT f
def secT (i : UInt8) (c : List UInt8) : List UInt8 := if c = [] then [] else [i] ++ uleb c.length ++ c
def headT : List UInt8 := [0, 97, 115, 109, 1, 0, 0, 0]
def tabT (n : Int) : List UInt8 := if 0 < n then [1, 112, 0] ++ numT n else []
def memT (p m : Int) : List UInt8 := if 0 < m then [1, 1] ++ numT p ++ numT m else []
def staT (n : Int) : List UInt8 := if 0 < n then numT (n - 1) else []
def modT (m : ModD) : List UInt8 := headT ++ secT 1 (listT sigT m.types) ++ secT 2 (listT impT m.imps) ++ secT 3 (listT (fun f => numT f.ty) m.funcs) ++ secT 4 (tabT m.table) ++ secT 5 (memT m.pages m.most)
  ++ secT 6 (listT gloT m.globals) ++ secT 7 (listT expT m.exps) ++ secT 8 (staT m.start) ++ secT 9 (listT elT m.elems) ++ secT 10 (listT codeT m.funcs) ++ secT 11 (listT datT m.data)
theorem rle_nil {l : List Int} (h : rle l = []) : l = [] := by
  cases l with
  | nil => rfl
  | cons x r => rw [rle] at h; split at h; · cases h
                split at h <;> cases h
theorem rle_head {l : List Int} {n : Nat} {y : Int} {q : List (Nat × Int)} (h : rle l = (n, y) :: q) : l.head? = some y := by
  cases l with
  | nil => cases h
  | cons x r =>
    rw [rle] at h
    split at h
    · injection h with h _; injection h with _ h; rw [h]; rfl
    · split at h
      · rename_i hxy; injection h with h _; injection h with _ h; rw [← h, hxy]; rfl
      · injection h with h _; injection h with _ h; rw [h]; rfl
theorem rle_run (k : Int) (r : List Int) (hr : r.head? ≠ some k) : ∀ n, rle (List.replicate (n + 1) k ++ r) = (n + 1, k) :: rle r := by
  intro n
  induction n with
  | zero =>
    show rle (k :: r) = _
    rw [rle]
    split
    · rename_i h; rw [h]
    · rename_i n y q h
      rw [if_neg (fun e => hr (by rw [rle_head h, e])), h]
  | succ n ih =>
    rw [List.replicate_succ, List.cons_append, rle, ih]
    simp
def unrle (l : List (Nat × Int)) : List Int := l.flatMap fun x => List.replicate x.1 x.2
theorem unrle_rle (l : List Int) : unrle (rle l) = l := by
  induction l with
  | nil => rfl
  | cons x r ih =>
    rw [rle]
    split
    · rename_i h; rw [rle_nil h]; rfl
    · rename_i n y q h
      rw [h] at ih
      split
      · rename_i e
        subst e
        rw [← ih]
        show List.replicate (n + 1) x ++ _ = x :: (List.replicate n x ++ _)
        rw [List.replicate_succ]; rfl
      · show [x] ++ _ = _
        rw [← ih]; rfl
/-- A run that begins at i and ends ahead of j. -/
theorem rle_at {l : List Int} {i j : Nat} {k : Int} (hi : l[i]? = some k) (hij : i < j) (hj : j ≤ l.length) (hrun : ∀ q, i ≤ q → q < j → l[q]? = some k) (hend : l[j]? ≠ some k) : rle (l.drop i) = (j - i, k) :: rle (l.drop j) := by
  have e : l.drop i = List.replicate ((j - i - 1) + 1) k ++ l.drop j := by
    apply List.ext_getElem?
    intro q
    rw [List.getElem?_drop]
    by_cases hq : q < j - i
    · rw [hrun (i + q) (by omega) (by omega), List.getElem?_append_left (by rw [List.length_replicate]; omega), List.getElem?_replicate, if_pos (by omega)]
    · rw [List.getElem?_append_right (by rw [List.length_replicate]; omega), List.length_replicate, List.getElem?_drop]
      congr 1; omega
  rw [e, rle_run k _ (by rw [List.head?_drop]; exact hend)]
  congr 2; omega
theorem rle_len (l : List Int) : (rle l).length ≤ l.length := by
  induction l with
  | nil => exact Nat.le_refl _
  | cons x r ih =>
    rw [rle]
    split
    · simp
    · rename_i n y q h
      rw [h] at ih
      simp only [List.length_cons] at ih
      split <;> (simp only [List.length_cons]; omega)
theorem flat_snoc {α : Type} {one : α → List UInt8} {xs : List α} {i : Nat} {x : α} (hx : xs[i]? = some x) : (xs.take (i + 1)).flatMap one = (xs.take i).flatMap one ++ one x := by
  rw [List.take_add_one, hx, List.flatMap_append]; simp
end Go.Proofs.YtbbdfhgcmkljeaaGreatDoor.Bin
/- Package bin: Check. -/
set_option maxRecDepth 100000
set_option maxHeartbeats 4000000
set_option linter.unusedVariables false
set_option linter.unusedSimpArgs false
namespace Go.Proofs.YtbbdfhgcmkljeaaGreatDoor.Bin
open Go Go.Proofs.YtbbdfhgcmkljeaaGreatDoor.Eng Go.RowKit
open Ins Nest Leb
section
variable {g : Glob} {w : World} {l : List As} {pc q : Nat} {b : Int}
theorem isKind (k : Int) (w : World) : Fc Tryz.prog 81 #[.int .u8 k] w (fun v w' => (∃ r, v = .bool r ∧ (r = true ↔ k = 127 ∨ k = 126)) ∧ Sat (froz w) w' []) := by
  refine Fc.of Tryz.func81 rfl (by kernel_rfl) ?_
  have H := Sat.start w
  refine br (fun c1 => ?_) (fun c1 => ?_)
  · replace c1 := vEq_t (c1)
    refine Done.mk ?_
    refine ⟨?_, ?_⟩
    · (simp; omega)
    exact H
  replace c1 := vEq_f (c1)
  refine Done.mk ?_
  refine ⟨?_, ?_⟩
  · (simp [vEq_iff]; omega)
  exact H
theorem isIndex (n : Int) (w : World) : Fc Tryz.prog 79 #[.int .i64 n] w (fun v w' => (∃ r, v = .bool r ∧ (r = true ↔ 0 ≤ n ∧ n ≤ 4294967295)) ∧ Sat (froz w) w' []) := by
  refine Fc.of Tryz.func79 rfl (by kernel_rfl) ?_
  have H := Sat.start w
  refine br (fun c1 => ?_) (fun c1 => ?_)
  · replace c1 := vLe_t (c1)
    refine Done.mk ?_
    refine ⟨?_, ?_⟩
    · (simp [vLe_iff]; omega)
    exact H
  replace c1 := vLe_f (c1)
  refine Done.mk ?_
  refine ⟨?_, ?_⟩
  · (simp; omega)
  exact H
theorem isPlace (n : Int) (hn : I64 n) (w : World) : Fc Tryz.prog 83 #[.int .i64 n] w (fun v w' => (∃ r, v = .bool r ∧ (r = true ↔ -2147483648 ≤ n ∧ n ≤ 2147483647)) ∧ Sat (froz w) w' []) := by
  refine Fc.of Tryz.func83 rfl (by kernel_rfl) ?_
  have H := Sat.start w
  refine rConvInt rfl rfl ?_
  refine rConvInt rfl rfl ?_
  refine Done.mk ?_
  refine ⟨?_, ?_⟩
  · refine ⟨vEq n (vWrap IntKind.i64 (vWrap IntKind.i32 n)), ?_⟩
    refine ⟨?_, ?_⟩
    · rfl
    exact fits32 hn
  exact H
def ndE (r : Bool) (e : Int) : Int := if r = true then 0 else e
theorem nd1 {r : Bool} {e : Int} (h : b ≠ 0) : FE b (ndE r e) b := (fst_ne _ h).symm
theorem nd2 {r : Bool} {e : Int} (h : b = 0) (hr : r = true) : FE b (ndE r e) b := by subst h; subst hr; rfl
theorem nd3 {r : Bool} {e : Int} (h : b = 0) (hr : r = false) : FE b (ndE r e) e := by subst h; subst hr; rfl
theorem need (H : Sat g w (Pt pc [.int .i64 b] 84 :: l)) (r : Bool) (e : Int) : Fc Tryz.prog 40 #[.pointer (some ⟨pc, 0, none⟩), .bool r, .int .i64 e] w (fun _ w' => ∃ c, FE b (ndE r e) c ∧ Sat g w' (Pt pc [.int .i64 c] 84 :: l)) := by
  refine Fc.of Tryz.func40 rfl (by kernel_rfl) ?_
  refine rFieldAt rfl ?_
  refine rLd (H.at 0 rfl) 0 rfl rfl rfl ?_
  refine br (fun c1 => ?_) (fun c1 => ?_)
  · replace c1 := vEq_t (c1)
    refine cI (fun c2 => ?_) (fun c2 => ?_)
    · replace c2 := not_t (c2)
      refine rFieldAt rfl ?_
      refine rStS H 0 rfl rfl rfl rfl ?_
      clear H
      intro w1 H
      refine Done.mk ?_
      refine ⟨e, ?_⟩
      refine ⟨?_, ?_⟩
      · exact nd3 (by omega) (by assumption)
      exact H
    replace c2 := not_f (c2)
    refine Done.mk ?_
    refine ⟨b, ?_⟩
    refine ⟨?_, ?_⟩
    · exact nd2 (by omega) (by assumption)
    exact H
  replace c1 := vEq_f (c1)
  refine cF rfl ?_
  refine Done.mk ?_
  refine ⟨b, ?_⟩
  refine ⟨?_, ?_⟩
  · exact nd1 (by omega)
  exact H
theorem fe0 {e : Int} (h : b = 0) : FE b e e := by subst h; exact (fst_0 _).symm
theorem says (H : Sat g w (Pt pc [.int .i64 b] 84 :: l)) (e : Int) : Fc Tryz.prog 78 #[.pointer (some ⟨pc, 0, none⟩), .int .i64 e] w (fun _ w' => ∃ c, FE b e c ∧ Sat g w' (Pt pc [.int .i64 c] 84 :: l)) := by
  refine Fc.of Tryz.func78 rfl (by kernel_rfl) ?_
  refine rFieldAt rfl ?_
  refine rLd (H.at 0 rfl) 0 rfl rfl rfl ?_
  refine cI (fun c1 => ?_) (fun c1 => ?_)
  · replace c1 := vEq_t (c1)
    refine rFieldAt rfl ?_
    refine rStS H 0 rfl rfl rfl rfl ?_
    clear H
    intro w1 H
    refine Done.mk ?_
    refine ⟨e, ?_⟩
    refine ⟨?_, ?_⟩
    · exact fe0 (by assumption)
    exact H
  replace c1 := vEq_f (c1)
  refine Done.mk ?_
  refine ⟨b, ?_⟩
  refine ⟨?_, ?_⟩
  · exact (fst_ne _ (by omega)).symm
  exact H
theorem ndIff {r : Bool} {p : Prop} [Decidable p] {e c : Int} (hr : r = true ↔ p) (h : FE b (ndE r e) c) : FE b (if p then 0 else e) c := by
  unfold FE ndE at *; rw [h]
  by_cases hp : p
  · rw [if_pos (hr.2 hp), if_pos hp]
  · rw [if_neg fun k => hp (hr.1 k), if_neg hp]

theorem kind (H : Sat g w (Pt pc [.int .i64 b] 84 :: l)) (k : Int) : Fc Tryz.prog 43 #[.pointer (some ⟨pc, 0, none⟩), .int .u8 k] w (fun _ w' => ∃ c, FE b (kindE k) c ∧ Sat g w' (Pt pc [.int .i64 c] 84 :: l)) := by
  refine Fc.of Tryz.func43 rfl (by kernel_rfl) ?_
  refine CallP.mk (Fc.imp (Go.Proofs.YtbbdfhgcmkljeaaGreatDoor.Bin.isKind _ _) ?_)
  rintro _ w1 ⟨⟨r1, ⟨rfl, h1⟩⟩, H'⟩
  refine H.mergeK H' ?_
  clear H H'
  intro H
  refine CallP.mk (Fc.imp (Go.Proofs.YtbbdfhgcmkljeaaGreatDoor.Bin.need H _ _) ?_)
  clear H
  rintro v' w2 ⟨c1, ⟨h2, H⟩⟩
  refine Done.mk ?_
  refine ⟨c1, ?_⟩
  refine ⟨?_, ?_⟩
  · exact ndIff (by assumption) (by assumption)
  exact H
theorem index (H : Sat g w (Pt pc [.int .i64 b] 84 :: l)) (n : Int) : Fc Tryz.prog 37 #[.pointer (some ⟨pc, 0, none⟩), .int .i64 n] w (fun _ w' => ∃ c, FE b (indexE n) c ∧ Sat g w' (Pt pc [.int .i64 c] 84 :: l)) := by
  refine Fc.of Tryz.func37 rfl (by kernel_rfl) ?_
  refine CallP.mk (Fc.imp (Go.Proofs.YtbbdfhgcmkljeaaGreatDoor.Bin.isIndex _ _) ?_)
  rintro _ w1 ⟨⟨r1, ⟨rfl, h1⟩⟩, H'⟩
  refine H.mergeK H' ?_
  clear H H'
  intro H
  refine CallP.mk (Fc.imp (Go.Proofs.YtbbdfhgcmkljeaaGreatDoor.Bin.need H _ _) ?_)
  clear H
  rintro v' w2 ⟨c1, ⟨h2, H⟩⟩
  refine Done.mk ?_
  refine ⟨c1, ?_⟩
  refine ⟨?_, ?_⟩
  · exact ndIff (by assumption) (by assumption)
  exact H
theorem place (H : Sat g w (Pt pc [.int .i64 b] 84 :: l)) (n : Int) (hn : I64 n) : Fc Tryz.prog 50 #[.pointer (some ⟨pc, 0, none⟩), .int .i64 n] w (fun _ w' => ∃ c, FE b (placeE n) c ∧ Sat g w' (Pt pc [.int .i64 c] 84 :: l)) := by
  refine Fc.of Tryz.func50 rfl (by kernel_rfl) ?_
  refine CallP.mk (Fc.imp (Go.Proofs.YtbbdfhgcmkljeaaGreatDoor.Bin.isPlace _ ?_ _) ?_)
  · assumption
  rintro _ w1 ⟨⟨r1, ⟨rfl, h1⟩⟩, H'⟩
  refine H.mergeK H' ?_
  clear H H'
  intro H
  refine CallP.mk (Fc.imp (Go.Proofs.YtbbdfhgcmkljeaaGreatDoor.Bin.need H _ _) ?_)
  clear H
  rintro v' w2 ⟨c1, ⟨h2, H⟩⟩
  refine Done.mk ?_
  refine ⟨c1, ?_⟩
  refine ⟨?_, ?_⟩
  · exact ndIff (by assumption) (by assumption)
  exact H
theorem named (H : Sat g w (Pt pc [.int .i64 b] 84 :: l)) (hT : U8F g) (s : List UInt8) (hs : s.length ≤ 9223372036854775807) : Fc Tryz.prog 36 #[.pointer (some ⟨pc, 0, none⟩), .string (bs s)] w (fun _ w' => ∃ c, FE b (nameE s) c ∧ Sat g w' (Pt pc [.int .i64 c] 84 :: l)) := by
  refine Fc.of Tryz.func36 rfl (by kernel_rfl) ?_
  refine CallP.mk (Fc.imp (Go.Proofs.YtbbdfhgcmkljeaaGreatDoor.Leb.name H ?_ _ ?_) ?_)
  · assumption
  · assumption
  clear H
  rintro _ w1 ⟨t1, ⟨e1, ⟨rfl, ⟨h1, ⟨h2, ⟨h3, H⟩⟩⟩⟩⟩⟩
  refine CallP.mk (Fc.imp (Go.Proofs.YtbbdfhgcmkljeaaGreatDoor.Bin.says H _) ?_)
  clear H
  rintro v' w2 ⟨c1, ⟨h4, H⟩⟩
  refine Done.mk ?_
  refine ⟨c1, ?_⟩
  refine ⟨?_, ?_⟩
  · exact h1 ▸ h4
  exact H
theorem nd_le {a m : Int} : ndE (vLe a m) 2 = (if a ≤ m then 0 else 2) := by
  unfold ndE
  by_cases h : a ≤ m
  · rw [if_pos (by rw [vLe_iff]; simpa using h), if_pos h]
  · rw [if_neg (by rw [vLe_iff]; simpa using h), if_neg h]
theorem gl1 {x : Int × Bool × Int} {c d : Int} (h1 : FE b (kindE x.1) c) (h : x.1 ≠ 127) (h2 : FE c (ndE true 1) d) : FE b (gloE x) d := by
  refine FE.two h1 ?_
  have e : startE x.1 x.2.2 = 0 := if_pos (.inl h)
  rw [e]; exact h2
theorem gl2 {x : Int × Bool × Int} {c d : Int} (hx : I64 x.2.2) (h1 : FE b (kindE x.1) c) (h : x.1 = 127) (h2 : FE c (ndE (vEq x.2.2 (vWrap .i64 (vWrap .i32 x.2.2))) 1) d) : FE b (gloE x) d := by
  refine FE.two h1 ?_
  have e : startE x.1 x.2.2 = ndE (vEq x.2.2 (vWrap .i64 (vWrap .i32 x.2.2))) 1 := by
    unfold startE ndE
    by_cases hh : -2147483648 ≤ x.2.2 ∧ x.2.2 ≤ 2147483647
    · rw [if_pos (.inr hh), if_pos ((fits32 hx).2 hh)]
    · rw [if_neg (fun k => k.elim (fun k => k h) hh), if_neg (fun k => hh ((fits32 hx).1 k))]
  rw [e]; exact h2
theorem dt1 {x : Int × List UInt8} {c d : Int} (h1 : FE b (placeE x.1) c) (h2 : FE c (ndE (vLe x.2.length 64) 2) d) : FE b (datE x) d := by
  refine FE.two h1 ?_
  rw [nd_le] at h2; exact h2
theorem ex0 {α : Type} {f : α → Int} {m : Int} {xs : List α} {c : Int} (h : FE b (ndE (vLe xs.length m) 2) c) : fst c (allE f (xs.drop 0)) = fst b (eachE m f xs) := by
  unfold FE at h; subst h
  have : ndE (vLe xs.length m) 2 = manyE xs.length m := by
    unfold ndE manyE
    by_cases h : (xs.length : Int) ≤ m
    · rw [if_pos (by rw [vLe_iff]; simpa using h), if_pos h]
    · rw [if_neg (by rw [vLe_iff]; simpa using h), if_neg h]
  rw [this, fst_assoc, List.drop_zero]; rfl
theorem ex1 {α : Type} {f : α → Int} {m : Int} {xs : List α} {c : Int} {i : Nat} (hi : xs.length ≤ i) (h : fst c (allE f (xs.drop i)) = fst b (eachE m f xs)) : FE b (eachE m f xs) c := by
  rw [List.drop_of_length_le hi] at h
  exact (fst_z c).symm.trans h
theorem ex2 {α : Type} {f : α → Int} {m : Int} {xs : List α} {c : Int} {i : Nat} (hc : c ≠ 0) (h : fst c (allE f (xs.drop i)) = fst b (eachE m f xs)) : FE b (eachE m f xs) c := by
  rw [fst_ne _ hc] at h; exact h
theorem ex3 {α : Type} {f : α → Int} {m : Int} {xs : List α} {c d : Int} {i : Nat} {a : α} (hx : xs[i]? = some a) (hd : FE c (f a) d) (h : fst c (allE f (xs.drop i)) = fst b (eachE m f xs)) : fst d (allE f (xs.drop (i + 1))) = fst b (eachE m f xs) := by
  have hh := List.getElem?_eq_some_iff.1 hx
  rw [List.drop_eq_getElem_cons hh.1, hh.2, allE] at h
  unfold FE at hd; rw [hd, fst_assoc]; exact h

theorem eachK (H : Sat g w (Pt pc [.int .i64 b] 84 :: l)) (m : Int) (v : Value) (xs : List Int) (hx : FSl g enK U8 1 v xs) : Fc Tryz.prog 77 #[.pointer (some ⟨pc, 0, none⟩), v, .int .i64 m, .func (.func 43) #[.pointer (some ⟨pc, 0, none⟩)] #[]] w (fun _ w' => ∃ c, FE b (eachE m kindE xs) c ∧ Sat g w' (Pt pc [.int .i64 c] 84 :: l)) := by
  refine Fc.of Tryz.func77 rfl (by kernel_rfl) ?_
  have hbd := SlR.len hx
  refine rLenF hx rfl ?_
  refine CallP.mk (Fc.imp (Go.Proofs.YtbbdfhgcmkljeaaGreatDoor.Bin.need H _ _) ?_)
  clear H
  rintro v' w1 ⟨c1, ⟨h1, H⟩⟩
  refine rLenF hx rfl ?_
  refine LoopP.rule (α := Nat × Int) (0, c1) (fun x_ => [(18, .int .i64 x_.1)]) (fun x_ w_ => (x_.1 ≤ xs.length) ∧ (fst x_.2 (allE kindE (xs.drop x_.1)) = fst b (eachE m kindE xs)) ∧ Sat g w_ ((Pt pc [.int .i64 x_.2] 84 :: l))) (fun x_ => xs.length - x_.1) ?_ ?_ ?_
  · repeat first | exact mt_nil | refine mt_cons rfl ?_ | refine mt_i rfl (by first | omega | (simp only; omega) | (simp; omega) | (simp; done)) ?_
  · try simp only
    refine ⟨?_, ?_⟩
    · omega
    refine ⟨?_, ?_⟩
    · exact ex0 (by assumption)
    exact H
  clear H
  rintro ⟨i, d⟩ f_ w_ ⟨hi, hb, H⟩
  try simp only at hi hb H ⊢
  refine cI (fun c2 => ?_) (fun c2 => ?_)
  · replace c2 := vLt_t (c2)
    refine bk ?_
    obtain ⟨x1, hx1⟩ : ∃ x, (xs)[(i)]? = some x := ⟨_, List.getElem?_eq_getElem (by omega)⟩
    obtain ⟨b1, o1, E1, F1, hok1⟩ := FSl.elt hx hx1
    refine rIxE E1 rfl rfl rfl ?_
    refine rLd (H.fat F1) 0 rfl rfl rfl ?_
    refine rFieldAt rfl ?_
    refine rLd (H.at 0 rfl) 0 rfl rfl rfl ?_
    refine cI (fun c3 => ?_) (fun c3 => ?_)
    · replace c3 := vNe_t (c3)
      refine Done.mk ?_
      refine ⟨d, ?_⟩
      refine ⟨?_, ?_⟩
      · exact ex2 (by omega) hb
      exact H
    replace c3 := vNe_f (c3)
    refine CallP.mk (Fc.imp (Go.Proofs.YtbbdfhgcmkljeaaGreatDoor.Bin.kind H _) ?_)
    clear H
    rintro va' w2 ⟨c4, ⟨h2, H⟩⟩
    refine eqI64 (by omega) ?_
    refine Nxt.mk ((i + 1, c4)) (mt_i rfl (by first | omega | (simp only; omega) | (simp; omega)) (mt_nil)) ?_ ?_
    · refine ⟨?_, ?_⟩
      · omega
      refine ⟨?_, ?_⟩
      · exact ex3 hx1 (by assumption) hb
      exact H
    omega
  replace c2 := vLt_f (c2)
  refine Done.mk ?_
  refine ⟨d, ?_⟩
  refine ⟨?_, ?_⟩
  · exact ex1 (by omega) hb
  exact H

theorem eachN (H : Sat g w (Pt pc [.int .i64 b] 84 :: l)) (m : Int) (v : Value) (xs : List Int) (hx : FSl g enI okI 1 v xs) : Fc Tryz.prog 82 #[.pointer (some ⟨pc, 0, none⟩), v, .int .i64 m, .func (.func 37) #[.pointer (some ⟨pc, 0, none⟩)] #[]] w (fun _ w' => ∃ c, FE b (eachE m indexE xs) c ∧ Sat g w' (Pt pc [.int .i64 c] 84 :: l)) := by
  refine Fc.of Tryz.func82 rfl (by kernel_rfl) ?_
  have hbd := SlR.len hx
  refine rLenF hx rfl ?_
  refine CallP.mk (Fc.imp (Go.Proofs.YtbbdfhgcmkljeaaGreatDoor.Bin.need H _ _) ?_)
  clear H
  rintro v' w1 ⟨c1, ⟨h1, H⟩⟩
  refine rLenF hx rfl ?_
  refine LoopP.rule (α := Nat × Int) (0, c1) (fun x_ => [(18, .int .i64 x_.1)]) (fun x_ w_ => (x_.1 ≤ xs.length) ∧ (fst x_.2 (allE indexE (xs.drop x_.1)) = fst b (eachE m indexE xs)) ∧ Sat g w_ ((Pt pc [.int .i64 x_.2] 84 :: l))) (fun x_ => xs.length - x_.1) ?_ ?_ ?_
  · repeat first | exact mt_nil | refine mt_cons rfl ?_ | refine mt_i rfl (by first | omega | (simp only; omega) | (simp; omega) | (simp; done)) ?_
  · try simp only
    refine ⟨?_, ?_⟩
    · omega
    refine ⟨?_, ?_⟩
    · exact ex0 (by assumption)
    exact H
  clear H
  rintro ⟨i, d⟩ f_ w_ ⟨hi, hb, H⟩
  try simp only at hi hb H ⊢
  refine cI (fun c2 => ?_) (fun c2 => ?_)
  · replace c2 := vLt_t (c2)
    refine bk ?_
    obtain ⟨x1, hx1⟩ : ∃ x, (xs)[(i)]? = some x := ⟨_, List.getElem?_eq_getElem (by omega)⟩
    obtain ⟨b1, o1, E1, F1, hok1⟩ := FSl.elt hx hx1
    refine rIxE E1 rfl rfl rfl ?_
    refine rLd (H.fat F1) 0 rfl rfl rfl ?_
    refine rFieldAt rfl ?_
    refine rLd (H.at 0 rfl) 0 rfl rfl rfl ?_
    refine cI (fun c3 => ?_) (fun c3 => ?_)
    · replace c3 := vNe_t (c3)
      refine Done.mk ?_
      refine ⟨d, ?_⟩
      refine ⟨?_, ?_⟩
      · exact ex2 (by omega) hb
      exact H
    replace c3 := vNe_f (c3)
    refine CallP.mk (Fc.imp (Go.Proofs.YtbbdfhgcmkljeaaGreatDoor.Bin.index H _) ?_)
    clear H
    rintro va' w2 ⟨c4, ⟨h2, H⟩⟩
    refine eqI64 (by omega) ?_
    refine Nxt.mk ((i + 1, c4)) (mt_i rfl (by first | omega | (simp only; omega) | (simp; omega)) (mt_nil)) ?_ ?_
    · refine ⟨?_, ?_⟩
      · omega
      refine ⟨?_, ?_⟩
      · exact ex3 hx1 (by assumption) hb
      exact H
    omega
  replace c2 := vLt_f (c2)
  refine Done.mk ?_
  refine ⟨d, ?_⟩
  refine ⟨?_, ?_⟩
  · exact ex1 (by omega) hb
  exact H

theorem sig (H : Sat g w (Pt pc [.int .i64 b] 84 :: l)) (x : SigV) (hx : okSg g x) : Fc Tryz.prog 33 #[.pointer (some ⟨pc, 0, none⟩), .agg #[x.vi, x.vo]] w (fun _ w' => ∃ c, FE b (sigE x.d) c ∧ Sat g w' (Pt pc [.int .i64 c] 84 :: l)) := by
  refine Fc.of Tryz.func33 rfl (by kernel_rfl) ?_
  have hx_inn := hx.inn
  have hx_out := hx.out
  refine rBoxS H ?_
  clear H
  intro p1 w1 H
  refine rFieldAt rfl ?_
  refine rLd (H.at 0 rfl) 0 rfl rfl rfl ?_
  refine H.fronts [1] ?_
  clear H
  intro H
  refine CallP.mk (Fc.imp (Go.Proofs.YtbbdfhgcmkljeaaGreatDoor.Bin.eachK H _ _ _ hx_inn) ?_)
  clear H
  rintro v' w2 ⟨c1, ⟨h1, H⟩⟩
  refine rFieldAt rfl ?_
  refine rLd (H.at 1 rfl) 1 rfl rfl rfl ?_
  refine CallP.mk (Fc.imp (Go.Proofs.YtbbdfhgcmkljeaaGreatDoor.Bin.eachK H _ _ _ hx_out) ?_)
  clear H
  rintro va' w3 ⟨c2, ⟨h2, H⟩⟩
  refine Done.mk ?_
  refine ⟨c2, ?_⟩
  refine ⟨?_, ?_⟩
  · exact FE.two (by assumption) (by assumption)
  refine H.drop 1 ?_
  clear H
  intro H
  exact H

theorem eachSg (H : Sat g w (Pt pc [.int .i64 b] 84 :: l)) (m : Int) (v : Value) (xs : List SigV) (hx : FSl g enSg (okSg g) 2 v xs) : Fc Tryz.prog 32 #[.pointer (some ⟨pc, 0, none⟩), v, .int .i64 m, .func (.func 33) #[.pointer (some ⟨pc, 0, none⟩)] #[]] w (fun _ w' => ∃ c, FE b (eachE m (fun x : SigV => sigE x.d) xs) c ∧ Sat g w' (Pt pc [.int .i64 c] 84 :: l)) := by
  refine Fc.of Tryz.func32 rfl (by kernel_rfl) ?_
  have hbd := SlR.len hx
  refine rLenF hx rfl ?_
  refine CallP.mk (Fc.imp (Go.Proofs.YtbbdfhgcmkljeaaGreatDoor.Bin.need H _ _) ?_)
  clear H
  rintro v' w1 ⟨c1, ⟨h1, H⟩⟩
  refine rLenF hx rfl ?_
  refine LoopP.rule (α := Nat × Int) (0, c1) (fun x_ => [(18, .int .i64 x_.1)]) (fun x_ w_ => (x_.1 ≤ xs.length) ∧ (fst x_.2 (allE (fun x : SigV => sigE x.d) (xs.drop x_.1)) = fst b (eachE m (fun x : SigV => sigE x.d) xs)) ∧ Sat g w_ ((Pt pc [.int .i64 x_.2] 84 :: l))) (fun x_ => xs.length - x_.1) ?_ ?_ ?_
  · repeat first | exact mt_nil | refine mt_cons rfl ?_ | refine mt_i rfl (by first | omega | (simp only; omega) | (simp; omega) | (simp; done)) ?_
  · try simp only
    refine ⟨?_, ?_⟩
    · omega
    refine ⟨?_, ?_⟩
    · exact ex0 (by assumption)
    exact H
  clear H
  rintro ⟨i, d⟩ f_ w_ ⟨hi, hb, H⟩
  try simp only at hi hb H ⊢
  refine cI (fun c2 => ?_) (fun c2 => ?_)
  · replace c2 := vLt_t (c2)
    refine bk ?_
    obtain ⟨x1, hx1⟩ : ∃ x, (xs)[(i)]? = some x := ⟨_, List.getElem?_eq_getElem (by omega)⟩
    obtain ⟨b1, o1, E1, F1, hok1⟩ := FSl.elt hx hx1
    have hok1_inn := hok1.inn
    have hok1_out := hok1.out
    refine rIxE E1 rfl rfl rfl ?_
    refine rLdA (H.fat F1) 0 rfl rfl rfl ?_
    refine rAllocS H rfl ?_
    clear H
    intro p1 w2 H
    clear w_
    refine rStAS H 0 rfl rfl rfl (by simp only [List.all_cons, List.all_nil, FSl.one hok1_out, FSl.one hok1_inn, FSl.one hx]; rfl) ?_
    clear H
    intro w3 H
    clear w2
    refine rFieldAt rfl ?_
    refine rLd (H.at 1 rfl) 0 rfl rfl rfl ?_
    refine cI (fun c3 => ?_) (fun c3 => ?_)
    · replace c3 := vNe_t (c3)
      refine Done.mk ?_
      refine ⟨d, ?_⟩
      refine ⟨?_, ?_⟩
      · exact ex2 (by omega) hb
      refine H.fronts [1] ?_
      clear H
      intro H
      refine H.drop 1 ?_
      clear H
      intro H
      exact H
    replace c3 := vNe_f (c3)
    refine rLdA (H.at 0 rfl) 0 rfl rfl rfl ?_
    refine H.fronts [1] ?_
    clear H
    intro H
    refine CallP.mk (Fc.imp (Go.Proofs.YtbbdfhgcmkljeaaGreatDoor.Bin.sig H _ ?_) ?_)
    · assumption
    clear H
    rintro va' w2 ⟨c4, ⟨h2, H⟩⟩
    refine eqI64 (by omega) ?_
    refine Nxt.mk ((i + 1, c4)) (mt_i rfl (by first | omega | (simp only; omega) | (simp; omega)) (mt_nil)) ?_ ?_
    · refine ⟨?_, ?_⟩
      · omega
      refine ⟨?_, ?_⟩
      · exact ex3 hx1 (by assumption) hb
      refine H.drop 1 ?_
      clear H
      intro H
      exact H
    omega
  replace c2 := vLt_f (c2)
  refine Done.mk ?_
  refine ⟨d, ?_⟩
  refine ⟨?_, ?_⟩
  · exact ex1 (by omega) hb
  exact H

theorem imp1 (H : Sat g w (Pt pc [.int .i64 b] 84 :: Pt q [.pointer (some ⟨pc, 0, none⟩)] 82 :: l)) (hT : U8F g) (x : List UInt8 × Int) (hx : okIm x) : Fc Tryz.prog 35 #[.agg #[.string (bs x.1), .int .i64 x.2], .pointer (some ⟨q, 0, none⟩)] w (fun _ w' => ∃ c, FE b (impE x) c ∧ Sat g w' (Pt pc [.int .i64 c] 84 :: Pt q [.pointer (some ⟨pc, 0, none⟩)] 82 :: l)) := by
  refine Fc.of Tryz.func35 rfl (by kernel_rfl) ?_
  have hx_name := hx.name
  have hx_ty := hx.ty
  refine rBoxS H ?_
  clear H
  intro p1 w1 H
  refine rLd (H.at 2 rfl) 0 rfl rfl rfl ?_
  refine rFieldAt rfl ?_
  refine rLd (H.at 0 rfl) 0 rfl rfl rfl ?_
  refine H.fronts [1] ?_
  clear H
  intro H
  refine CallP.mk (Fc.imp (Go.Proofs.YtbbdfhgcmkljeaaGreatDoor.Bin.named H ?_ _ ?_) ?_)
  · assumption
  · assumption
  clear H
  rintro v' w2 ⟨c1, ⟨h1, H⟩⟩
  refine rLd (H.at 2 rfl) 0 rfl rfl rfl ?_
  refine rFieldAt rfl ?_
  refine rLd (H.at 1 rfl) 1 rfl rfl rfl ?_
  refine CallP.mk (Fc.imp (Go.Proofs.YtbbdfhgcmkljeaaGreatDoor.Bin.index H _) ?_)
  clear H
  rintro va' w3 ⟨c2, ⟨h2, H⟩⟩
  refine Done.mk ?_
  refine ⟨c2, ?_⟩
  refine ⟨?_, ?_⟩
  · exact FE.two (by assumption) (by assumption)
  refine H.fronts [2, 1] ?_
  clear H
  intro H
  refine H.drop 2 ?_
  clear H
  intro H
  exact H

theorem eachIm (H : Sat g w (Pt pc [.int .i64 b] 84 :: Pt q [.pointer (some ⟨pc, 0, none⟩)] 82 :: l)) (hT : U8F g) (m : Int) (v : Value) (xs : List (List UInt8 × Int)) (hx : FSl g enIm okIm 2 v xs) : Fc Tryz.prog 34 #[.pointer (some ⟨pc, 0, none⟩), v, .int .i64 m, .func (.func 35) #[] #[.pointer (some ⟨q, 0, none⟩)]] w (fun _ w' => ∃ c, FE b (eachE m impE xs) c ∧ Sat g w' (Pt pc [.int .i64 c] 84 :: Pt q [.pointer (some ⟨pc, 0, none⟩)] 82 :: l)) := by
  refine Fc.of Tryz.func34 rfl (by kernel_rfl) ?_
  have hbd := SlR.len hx
  refine rLenF hx rfl ?_
  refine CallP.mk (Fc.imp (Go.Proofs.YtbbdfhgcmkljeaaGreatDoor.Bin.need H _ _) ?_)
  clear H
  rintro v' w1 ⟨c1, ⟨h1, H⟩⟩
  refine rLenF hx rfl ?_
  refine LoopP.rule (α := Nat × Int) (0, c1) (fun x_ => [(18, .int .i64 x_.1)]) (fun x_ w_ => (x_.1 ≤ xs.length) ∧ (fst x_.2 (allE impE (xs.drop x_.1)) = fst b (eachE m impE xs)) ∧ Sat g w_ ((Pt pc [.int .i64 x_.2] 84 :: Pt q [.pointer (some ⟨pc, 0, none⟩)] 82 :: l))) (fun x_ => xs.length - x_.1) ?_ ?_ ?_
  · repeat first | exact mt_nil | refine mt_cons rfl ?_ | refine mt_i rfl (by first | omega | (simp only; omega) | (simp; omega) | (simp; done)) ?_
  · try simp only
    refine ⟨?_, ?_⟩
    · omega
    refine ⟨?_, ?_⟩
    · exact ex0 (by assumption)
    exact H
  clear H
  rintro ⟨i, d⟩ f_ w_ ⟨hi, hb, H⟩
  try simp only at hi hb H ⊢
  refine cI (fun c2 => ?_) (fun c2 => ?_)
  · replace c2 := vLt_t (c2)
    refine bk ?_
    obtain ⟨x1, hx1⟩ : ∃ x, (xs)[(i)]? = some x := ⟨_, List.getElem?_eq_getElem (by omega)⟩
    obtain ⟨b1, o1, E1, F1, hok1⟩ := FSl.elt hx hx1
    have hok1_name := hok1.name
    have hok1_ty := hok1.ty
    refine rIxE E1 rfl rfl rfl ?_
    refine rLdA (H.fat F1) 0 rfl rfl rfl ?_
    refine rAllocS H rfl ?_
    clear H
    intro p1 w2 H
    clear w_
    refine rStAS H 0 rfl rfl rfl rfl ?_
    clear H
    intro w3 H
    clear w2
    refine rFieldAt rfl ?_
    refine rLd (H.at 1 rfl) 0 rfl rfl rfl ?_
    refine cI (fun c3 => ?_) (fun c3 => ?_)
    · replace c3 := vNe_t (c3)
      refine Done.mk ?_
      refine ⟨d, ?_⟩
      refine ⟨?_, ?_⟩
      · exact ex2 (by omega) hb
      refine H.fronts [2, 2] ?_
      clear H
      intro H
      refine H.drop 2 ?_
      clear H
      intro H
      exact H
    replace c3 := vNe_f (c3)
    refine rLdA (H.at 0 rfl) 0 rfl rfl rfl ?_
    refine H.fronts [2, 2] ?_
    clear H
    intro H
    refine CallP.mk (Fc.imp (Go.Proofs.YtbbdfhgcmkljeaaGreatDoor.Bin.imp1 H ?_ _ ?_) ?_)
    · assumption
    · assumption
    clear H
    rintro va' w2 ⟨c4, ⟨h2, H⟩⟩
    refine eqI64 (by omega) ?_
    refine Nxt.mk ((i + 1, c4)) (mt_i rfl (by first | omega | (simp only; omega) | (simp; omega)) (mt_nil)) ?_ ?_
    · refine ⟨?_, ?_⟩
      · omega
      refine ⟨?_, ?_⟩
      · exact ex3 hx1 (by assumption) hb
      refine H.drop 2 ?_
      clear H
      intro H
      exact H
    omega
  replace c2 := vLt_f (c2)
  refine Done.mk ?_
  refine ⟨d, ?_⟩
  refine ⟨?_, ?_⟩
  · exact ex1 (by omega) hb
  exact H

theorem fun1 {b c d : Int} {x : FunV} (h1 : FE b (indexE x.ty) c) (h2 : FE c (eachE 16 kindE x.loc) d) (h : d ≠ 0) : FE b (funE x.d) d := by
  unfold FE at *
  have : fst d (chkB x.d.body) = d := fst_ne _ h
  rw [← this, h2, h1, fst_assoc, fst_assoc]; rfl
theorem fun2 {b c d e : Int} {x : FunV} (h1 : FE b (indexE x.ty) c) (h2 : FE c (eachE 16 kindE x.loc) d) (h : d = 0) (he : e = chkB (x.body.map InsV.d)) : FE b (funE x.d) e := by
  unfold FE at *
  have : fst d (chkB x.d.body) = e := by rw [h, fst_0]; exact he.symm
  rw [← this, h2, h1, fst_assoc, fst_assoc]; rfl

theorem function (H : Sat g w (Pt pc [.int .i64 b] 84 :: l)) (x : FunV) (hx : okFn g x) : Fc Tryz.prog 39 #[.pointer (some ⟨pc, 0, none⟩), .agg #[.int .i64 x.ty, x.vl, x.vb]] w (fun _ w' => ∃ c, FE b (funE x.d) c ∧ Sat g w' (Pt pc [.int .i64 c] 84 :: l)) := by
  refine Fc.of Tryz.func39 rfl (by kernel_rfl) ?_
  have hx_ty := hx.ty
  have hx_loc := hx.loc
  have hx_body := hx.body
  refine rBoxS H ?_
  clear H
  intro p1 w1 H
  refine rFieldAt rfl ?_
  refine rLd (H.at 0 rfl) 0 rfl rfl rfl ?_
  refine H.fronts [1] ?_
  clear H
  intro H
  refine CallP.mk (Fc.imp (Go.Proofs.YtbbdfhgcmkljeaaGreatDoor.Bin.index H _) ?_)
  clear H
  rintro v' w2 ⟨c1, ⟨h1, H⟩⟩
  refine rFieldAt rfl ?_
  refine rLd (H.at 1 rfl) 1 rfl rfl rfl ?_
  refine CallP.mk (Fc.imp (Go.Proofs.YtbbdfhgcmkljeaaGreatDoor.Bin.eachK H _ _ _ hx_loc) ?_)
  clear H
  rintro va' w3 ⟨c2, ⟨h2, H⟩⟩
  refine rFieldAt rfl ?_
  refine rLd (H.at 0 rfl) 0 rfl rfl rfl ?_
  refine cI (fun c3 => ?_) (fun c3 => ?_)
  · replace c3 := vEq_t (c3)
    refine rFieldAt rfl ?_
    refine rLd (H.at 1 rfl) 2 rfl rfl rfl ?_
    refine CallP.mk (Fc.imp (Go.Proofs.YtbbdfhgcmkljeaaGreatDoor.Nest.check H _ _ hx_body) ?_)
    clear H
    rintro _ w4 ⟨⟨e1, ⟨rfl, h3⟩⟩, H⟩
    refine rFieldAt rfl ?_
    refine rStS H 0 rfl rfl rfl rfl ?_
    clear H
    intro w5 H
    clear w4
    refine Done.mk ?_
    refine ⟨e1, ?_⟩
    refine ⟨?_, ?_⟩
    · exact fun2 (by assumption) (by assumption) (by omega) (by assumption)
    refine H.drop 1 ?_
    clear H
    intro H
    exact H
  replace c3 := vEq_f (c3)
  refine Done.mk ?_
  refine ⟨c2, ?_⟩
  refine ⟨?_, ?_⟩
  · exact fun1 (by assumption) (by assumption) (by omega)
  refine H.drop 1 ?_
  clear H
  intro H
  exact H

theorem eachFn (H : Sat g w (Pt pc [.int .i64 b] 84 :: l)) (m : Int) (v : Value) (xs : List FunV) (hx : FSl g enFn (okFn g) 3 v xs) : Fc Tryz.prog 38 #[.pointer (some ⟨pc, 0, none⟩), v, .int .i64 m, .func (.func 39) #[.pointer (some ⟨pc, 0, none⟩)] #[]] w (fun _ w' => ∃ c, FE b (eachE m (fun x : FunV => funE x.d) xs) c ∧ Sat g w' (Pt pc [.int .i64 c] 84 :: l)) := by
  refine Fc.of Tryz.func38 rfl (by kernel_rfl) ?_
  have hbd := SlR.len hx
  refine rLenF hx rfl ?_
  refine CallP.mk (Fc.imp (Go.Proofs.YtbbdfhgcmkljeaaGreatDoor.Bin.need H _ _) ?_)
  clear H
  rintro v' w1 ⟨c1, ⟨h1, H⟩⟩
  refine rLenF hx rfl ?_
  refine LoopP.rule (α := Nat × Int) (0, c1) (fun x_ => [(18, .int .i64 x_.1)]) (fun x_ w_ => (x_.1 ≤ xs.length) ∧ (fst x_.2 (allE (fun x : FunV => funE x.d) (xs.drop x_.1)) = fst b (eachE m (fun x : FunV => funE x.d) xs)) ∧ Sat g w_ ((Pt pc [.int .i64 x_.2] 84 :: l))) (fun x_ => xs.length - x_.1) ?_ ?_ ?_
  · repeat first | exact mt_nil | refine mt_cons rfl ?_ | refine mt_i rfl (by first | omega | (simp only; omega) | (simp; omega) | (simp; done)) ?_
  · try simp only
    refine ⟨?_, ?_⟩
    · omega
    refine ⟨?_, ?_⟩
    · exact ex0 (by assumption)
    exact H
  clear H
  rintro ⟨i, d⟩ f_ w_ ⟨hi, hb, H⟩
  try simp only at hi hb H ⊢
  refine cI (fun c2 => ?_) (fun c2 => ?_)
  · replace c2 := vLt_t (c2)
    refine bk ?_
    obtain ⟨x1, hx1⟩ : ∃ x, (xs)[(i)]? = some x := ⟨_, List.getElem?_eq_getElem (by omega)⟩
    obtain ⟨b1, o1, E1, F1, hok1⟩ := FSl.elt hx hx1
    have hok1_ty := hok1.ty
    have hok1_loc := hok1.loc
    have hok1_body := hok1.body
    refine rIxE E1 rfl rfl rfl ?_
    refine rLdA (H.fat F1) 0 rfl rfl rfl ?_
    refine rAllocS H rfl ?_
    clear H
    intro p1 w2 H
    clear w_
    refine rStAS H 0 rfl rfl rfl (by simp only [List.all_cons, List.all_nil, FSl.one hok1_body, FSl.one hok1_loc, FSl.one hx]; rfl) ?_
    clear H
    intro w3 H
    clear w2
    refine rFieldAt rfl ?_
    refine rLd (H.at 1 rfl) 0 rfl rfl rfl ?_
    refine cI (fun c3 => ?_) (fun c3 => ?_)
    · replace c3 := vNe_t (c3)
      refine Done.mk ?_
      refine ⟨d, ?_⟩
      refine ⟨?_, ?_⟩
      · exact ex2 (by omega) hb
      refine H.fronts [1] ?_
      clear H
      intro H
      refine H.drop 1 ?_
      clear H
      intro H
      exact H
    replace c3 := vNe_f (c3)
    refine rLdA (H.at 0 rfl) 0 rfl rfl rfl ?_
    refine H.fronts [1] ?_
    clear H
    intro H
    refine CallP.mk (Fc.imp (Go.Proofs.YtbbdfhgcmkljeaaGreatDoor.Bin.function H _ ?_) ?_)
    · assumption
    clear H
    rintro va' w2 ⟨c4, ⟨h2, H⟩⟩
    refine eqI64 (by omega) ?_
    refine Nxt.mk ((i + 1, c4)) (mt_i rfl (by first | omega | (simp only; omega) | (simp; omega)) (mt_nil)) ?_ ?_
    · refine ⟨?_, ?_⟩
      · omega
      refine ⟨?_, ?_⟩
      · exact ex3 hx1 (by assumption) hb
      refine H.drop 1 ?_
      clear H
      intro H
      exact H
    omega
  replace c2 := vLt_f (c2)
  refine Done.mk ?_
  refine ⟨d, ?_⟩
  refine ⟨?_, ?_⟩
  · exact ex1 (by omega) hb
  exact H

theorem glo1 (H : Sat g w (Pt pc [.int .i64 b] 84 :: Pt q [.pointer (some ⟨pc, 0, none⟩)] 82 :: l)) (x : Int × Bool × Int) (hx : okGl x) : Fc Tryz.prog 42 #[.agg #[.int .u8 x.1, .bool x.2.1, .int .i64 x.2.2], .pointer (some ⟨q, 0, none⟩)] w (fun _ w' => ∃ c, FE b (gloE x) c ∧ Sat g w' (Pt pc [.int .i64 c] 84 :: Pt q [.pointer (some ⟨pc, 0, none⟩)] 82 :: l)) := by
  refine Fc.of Tryz.func42 rfl (by kernel_rfl) ?_
  have hx_kind := hx.kind
  have hx_start := hx.start
  refine rBoxS H ?_
  clear H
  intro p1 w1 H
  refine rLd (H.at 2 rfl) 0 rfl rfl rfl ?_
  refine rFieldAt rfl ?_
  refine rLd (H.at 0 rfl) 0 rfl rfl rfl ?_
  refine H.fronts [1] ?_
  clear H
  intro H
  refine CallP.mk (Fc.imp (Go.Proofs.YtbbdfhgcmkljeaaGreatDoor.Bin.kind H _) ?_)
  clear H
  rintro v' w2 ⟨c1, ⟨h1, H⟩⟩
  refine rLd (H.at 2 rfl) 0 rfl rfl rfl ?_
  refine rFieldAt rfl ?_
  refine rLd (H.at 1 rfl) 0 rfl rfl rfl ?_
  refine br (fun c2 => ?_) (fun c2 => ?_)
  · replace c2 := vNe_t (c2)
    refine CallP.mk (Fc.imp (Go.Proofs.YtbbdfhgcmkljeaaGreatDoor.Bin.need H _ _) ?_)
    clear H
    rintro va' w3 ⟨c3, ⟨h2, H⟩⟩
    refine Done.mk ?_
    refine ⟨c3, ?_⟩
    refine ⟨?_, ?_⟩
    · exact gl1 h1 (by assumption) (by assumption)
    refine H.fronts [2, 1] ?_
    clear H
    intro H
    refine H.drop 2 ?_
    clear H
    intro H
    exact H
  replace c2 := vNe_f (c2)
  refine rFieldAt rfl ?_
  refine rLd (H.at 1 rfl) 2 rfl rfl rfl ?_
  refine rFieldAt rfl ?_
  refine rLd (H.at 1 rfl) 2 rfl rfl rfl ?_
  refine rConvInt rfl rfl ?_
  refine rConvInt rfl rfl ?_
  refine CallP.mk (Fc.imp (Go.Proofs.YtbbdfhgcmkljeaaGreatDoor.Bin.need H _ _) ?_)
  clear H
  rintro va' w3 ⟨c3, ⟨h2, H⟩⟩
  refine Done.mk ?_
  refine ⟨c3, ?_⟩
  refine ⟨?_, ?_⟩
  · exact gl2 hx_start h1 (by omega) (by assumption)
  refine H.fronts [2, 1] ?_
  clear H
  intro H
  refine H.drop 2 ?_
  clear H
  intro H
  exact H

theorem eachGl (H : Sat g w (Pt pc [.int .i64 b] 84 :: Pt q [.pointer (some ⟨pc, 0, none⟩)] 82 :: l)) (m : Int) (v : Value) (xs : List (Int × Bool × Int)) (hx : FSl g enGl okGl 3 v xs) : Fc Tryz.prog 41 #[.pointer (some ⟨pc, 0, none⟩), v, .int .i64 m, .func (.func 42) #[] #[.pointer (some ⟨q, 0, none⟩)]] w (fun _ w' => ∃ c, FE b (eachE m gloE xs) c ∧ Sat g w' (Pt pc [.int .i64 c] 84 :: Pt q [.pointer (some ⟨pc, 0, none⟩)] 82 :: l)) := by
  refine Fc.of Tryz.func41 rfl (by kernel_rfl) ?_
  have hbd := SlR.len hx
  refine rLenF hx rfl ?_
  refine CallP.mk (Fc.imp (Go.Proofs.YtbbdfhgcmkljeaaGreatDoor.Bin.need H _ _) ?_)
  clear H
  rintro v' w1 ⟨c1, ⟨h1, H⟩⟩
  refine rLenF hx rfl ?_
  refine LoopP.rule (α := Nat × Int) (0, c1) (fun x_ => [(18, .int .i64 x_.1)]) (fun x_ w_ => (x_.1 ≤ xs.length) ∧ (fst x_.2 (allE gloE (xs.drop x_.1)) = fst b (eachE m gloE xs)) ∧ Sat g w_ ((Pt pc [.int .i64 x_.2] 84 :: Pt q [.pointer (some ⟨pc, 0, none⟩)] 82 :: l))) (fun x_ => xs.length - x_.1) ?_ ?_ ?_
  · repeat first | exact mt_nil | refine mt_cons rfl ?_ | refine mt_i rfl (by first | omega | (simp only; omega) | (simp; omega) | (simp; done)) ?_
  · try simp only
    refine ⟨?_, ?_⟩
    · omega
    refine ⟨?_, ?_⟩
    · exact ex0 (by assumption)
    exact H
  clear H
  rintro ⟨i, d⟩ f_ w_ ⟨hi, hb, H⟩
  try simp only at hi hb H ⊢
  refine cI (fun c2 => ?_) (fun c2 => ?_)
  · replace c2 := vLt_t (c2)
    refine bk ?_
    obtain ⟨x1, hx1⟩ : ∃ x, (xs)[(i)]? = some x := ⟨_, List.getElem?_eq_getElem (by omega)⟩
    obtain ⟨b1, o1, E1, F1, hok1⟩ := FSl.elt hx hx1
    have hok1_kind := hok1.kind
    have hok1_start := hok1.start
    refine rIxE E1 rfl rfl rfl ?_
    refine rLdA (H.fat F1) 0 rfl rfl rfl ?_
    refine rAllocS H rfl ?_
    clear H
    intro p1 w2 H
    clear w_
    refine rStAS H 0 rfl rfl rfl rfl ?_
    clear H
    intro w3 H
    clear w2
    refine rFieldAt rfl ?_
    refine rLd (H.at 1 rfl) 0 rfl rfl rfl ?_
    refine cI (fun c3 => ?_) (fun c3 => ?_)
    · replace c3 := vNe_t (c3)
      refine Done.mk ?_
      refine ⟨d, ?_⟩
      refine ⟨?_, ?_⟩
      · exact ex2 (by omega) hb
      refine H.fronts [2, 2] ?_
      clear H
      intro H
      refine H.drop 2 ?_
      clear H
      intro H
      exact H
    replace c3 := vNe_f (c3)
    refine rLdA (H.at 0 rfl) 0 rfl rfl rfl ?_
    refine H.fronts [2, 2] ?_
    clear H
    intro H
    refine CallP.mk (Fc.imp (Go.Proofs.YtbbdfhgcmkljeaaGreatDoor.Bin.glo1 H _ ?_) ?_)
    · assumption
    clear H
    rintro va' w2 ⟨c4, ⟨h2, H⟩⟩
    refine eqI64 (by omega) ?_
    refine Nxt.mk ((i + 1, c4)) (mt_i rfl (by first | omega | (simp only; omega) | (simp; omega)) (mt_nil)) ?_ ?_
    · refine ⟨?_, ?_⟩
      · omega
      refine ⟨?_, ?_⟩
      · exact ex3 hx1 (by assumption) hb
      refine H.drop 2 ?_
      clear H
      intro H
      exact H
    omega
  replace c2 := vLt_f (c2)
  refine Done.mk ?_
  refine ⟨d, ?_⟩
  refine ⟨?_, ?_⟩
  · exact ex1 (by omega) hb
  exact H

theorem shown (H : Sat g w (Pt pc [.int .i64 b] 84 :: l)) (hT : U8F g) (x : List UInt8 × Int) (hx : okIm x) : Fc Tryz.prog 45 #[.pointer (some ⟨pc, 0, none⟩), .agg #[.string (bs x.1), .int .i64 x.2]] w (fun _ w' => ∃ c, FE b (impE x) c ∧ Sat g w' (Pt pc [.int .i64 c] 84 :: l)) := by
  refine Fc.of Tryz.func45 rfl (by kernel_rfl) ?_
  have hx_name := hx.name
  have hx_ty := hx.ty
  refine rBoxS H ?_
  clear H
  intro p1 w1 H
  refine rFieldAt rfl ?_
  refine rLd (H.at 0 rfl) 0 rfl rfl rfl ?_
  refine H.fronts [1] ?_
  clear H
  intro H
  refine CallP.mk (Fc.imp (Go.Proofs.YtbbdfhgcmkljeaaGreatDoor.Bin.named H ?_ _ ?_) ?_)
  · assumption
  · assumption
  clear H
  rintro v' w2 ⟨c1, ⟨h1, H⟩⟩
  refine rFieldAt rfl ?_
  refine rLd (H.at 1 rfl) 1 rfl rfl rfl ?_
  refine CallP.mk (Fc.imp (Go.Proofs.YtbbdfhgcmkljeaaGreatDoor.Bin.index H _) ?_)
  clear H
  rintro va' w3 ⟨c2, ⟨h2, H⟩⟩
  refine Done.mk ?_
  refine ⟨c2, ?_⟩
  refine ⟨?_, ?_⟩
  · exact FE.two (by assumption) (by assumption)
  refine H.drop 1 ?_
  clear H
  intro H
  exact H

theorem eachEx (H : Sat g w (Pt pc [.int .i64 b] 84 :: l)) (hT : U8F g) (m : Int) (v : Value) (xs : List (List UInt8 × Int)) (hx : FSl g enIm okIm 2 v xs) : Fc Tryz.prog 44 #[.pointer (some ⟨pc, 0, none⟩), v, .int .i64 m, .func (.func 45) #[.pointer (some ⟨pc, 0, none⟩)] #[]] w (fun _ w' => ∃ c, FE b (eachE m impE xs) c ∧ Sat g w' (Pt pc [.int .i64 c] 84 :: l)) := by
  refine Fc.of Tryz.func44 rfl (by kernel_rfl) ?_
  have hbd := SlR.len hx
  refine rLenF hx rfl ?_
  refine CallP.mk (Fc.imp (Go.Proofs.YtbbdfhgcmkljeaaGreatDoor.Bin.need H _ _) ?_)
  clear H
  rintro v' w1 ⟨c1, ⟨h1, H⟩⟩
  refine rLenF hx rfl ?_
  refine LoopP.rule (α := Nat × Int) (0, c1) (fun x_ => [(18, .int .i64 x_.1)]) (fun x_ w_ => (x_.1 ≤ xs.length) ∧ (fst x_.2 (allE impE (xs.drop x_.1)) = fst b (eachE m impE xs)) ∧ Sat g w_ ((Pt pc [.int .i64 x_.2] 84 :: l))) (fun x_ => xs.length - x_.1) ?_ ?_ ?_
  · repeat first | exact mt_nil | refine mt_cons rfl ?_ | refine mt_i rfl (by first | omega | (simp only; omega) | (simp; omega) | (simp; done)) ?_
  · try simp only
    refine ⟨?_, ?_⟩
    · omega
    refine ⟨?_, ?_⟩
    · exact ex0 (by assumption)
    exact H
  clear H
  rintro ⟨i, d⟩ f_ w_ ⟨hi, hb, H⟩
  try simp only at hi hb H ⊢
  refine cI (fun c2 => ?_) (fun c2 => ?_)
  · replace c2 := vLt_t (c2)
    refine bk ?_
    obtain ⟨x1, hx1⟩ : ∃ x, (xs)[(i)]? = some x := ⟨_, List.getElem?_eq_getElem (by omega)⟩
    obtain ⟨b1, o1, E1, F1, hok1⟩ := FSl.elt hx hx1
    have hok1_name := hok1.name
    have hok1_ty := hok1.ty
    refine rIxE E1 rfl rfl rfl ?_
    refine rLdA (H.fat F1) 0 rfl rfl rfl ?_
    refine rAllocS H rfl ?_
    clear H
    intro p1 w2 H
    clear w_
    refine rStAS H 0 rfl rfl rfl rfl ?_
    clear H
    intro w3 H
    clear w2
    refine rFieldAt rfl ?_
    refine rLd (H.at 1 rfl) 0 rfl rfl rfl ?_
    refine cI (fun c3 => ?_) (fun c3 => ?_)
    · replace c3 := vNe_t (c3)
      refine Done.mk ?_
      refine ⟨d, ?_⟩
      refine ⟨?_, ?_⟩
      · exact ex2 (by omega) hb
      refine H.fronts [1] ?_
      clear H
      intro H
      refine H.drop 1 ?_
      clear H
      intro H
      exact H
    replace c3 := vNe_f (c3)
    refine rLdA (H.at 0 rfl) 0 rfl rfl rfl ?_
    refine H.fronts [1] ?_
    clear H
    intro H
    refine CallP.mk (Fc.imp (Go.Proofs.YtbbdfhgcmkljeaaGreatDoor.Bin.shown H ?_ _ ?_) ?_)
    · assumption
    · assumption
    clear H
    rintro va' w2 ⟨c4, ⟨h2, H⟩⟩
    refine eqI64 (by omega) ?_
    refine Nxt.mk ((i + 1, c4)) (mt_i rfl (by first | omega | (simp only; omega) | (simp; omega)) (mt_nil)) ?_ ?_
    · refine ⟨?_, ?_⟩
      · omega
      refine ⟨?_, ?_⟩
      · exact ex3 hx1 (by assumption) hb
      refine H.drop 1 ?_
      clear H
      intro H
      exact H
    omega
  replace c2 := vLt_f (c2)
  refine Done.mk ?_
  refine ⟨d, ?_⟩
  refine ⟨?_, ?_⟩
  · exact ex1 (by omega) hb
  exact H

theorem elem (H : Sat g w (Pt pc [.int .i64 b] 84 :: l)) (x : ElV) (hx : okEl g x) : Fc Tryz.prog 47 #[.pointer (some ⟨pc, 0, none⟩), .agg #[.int .i64 x.pl, x.vf]] w (fun _ w' => ∃ c, FE b (elE x.d) c ∧ Sat g w' (Pt pc [.int .i64 c] 84 :: l)) := by
  refine Fc.of Tryz.func47 rfl (by kernel_rfl) ?_
  have hx_pl := hx.pl
  have hx_fs := hx.fs
  refine rBoxS H ?_
  clear H
  intro p1 w1 H
  refine rFieldAt rfl ?_
  refine rLd (H.at 0 rfl) 0 rfl rfl rfl ?_
  refine H.fronts [1] ?_
  clear H
  intro H
  refine CallP.mk (Fc.imp (Go.Proofs.YtbbdfhgcmkljeaaGreatDoor.Bin.place H _ ?_) ?_)
  · assumption
  clear H
  rintro v' w2 ⟨c1, ⟨h1, H⟩⟩
  refine rFieldAt rfl ?_
  refine rLd (H.at 1 rfl) 1 rfl rfl rfl ?_
  refine CallP.mk (Fc.imp (Go.Proofs.YtbbdfhgcmkljeaaGreatDoor.Bin.eachN H _ _ _ hx_fs) ?_)
  clear H
  rintro va' w3 ⟨c2, ⟨h2, H⟩⟩
  refine Done.mk ?_
  refine ⟨c2, ?_⟩
  refine ⟨?_, ?_⟩
  · exact FE.two (by assumption) (by assumption)
  refine H.drop 1 ?_
  clear H
  intro H
  exact H

theorem eachEl (H : Sat g w (Pt pc [.int .i64 b] 84 :: l)) (m : Int) (v : Value) (xs : List ElV) (hx : FSl g enEl (okEl g) 2 v xs) : Fc Tryz.prog 46 #[.pointer (some ⟨pc, 0, none⟩), v, .int .i64 m, .func (.func 47) #[.pointer (some ⟨pc, 0, none⟩)] #[]] w (fun _ w' => ∃ c, FE b (eachE m (fun x : ElV => elE x.d) xs) c ∧ Sat g w' (Pt pc [.int .i64 c] 84 :: l)) := by
  refine Fc.of Tryz.func46 rfl (by kernel_rfl) ?_
  have hbd := SlR.len hx
  refine rLenF hx rfl ?_
  refine CallP.mk (Fc.imp (Go.Proofs.YtbbdfhgcmkljeaaGreatDoor.Bin.need H _ _) ?_)
  clear H
  rintro v' w1 ⟨c1, ⟨h1, H⟩⟩
  refine rLenF hx rfl ?_
  refine LoopP.rule (α := Nat × Int) (0, c1) (fun x_ => [(18, .int .i64 x_.1)]) (fun x_ w_ => (x_.1 ≤ xs.length) ∧ (fst x_.2 (allE (fun x : ElV => elE x.d) (xs.drop x_.1)) = fst b (eachE m (fun x : ElV => elE x.d) xs)) ∧ Sat g w_ ((Pt pc [.int .i64 x_.2] 84 :: l))) (fun x_ => xs.length - x_.1) ?_ ?_ ?_
  · repeat first | exact mt_nil | refine mt_cons rfl ?_ | refine mt_i rfl (by first | omega | (simp only; omega) | (simp; omega) | (simp; done)) ?_
  · try simp only
    refine ⟨?_, ?_⟩
    · omega
    refine ⟨?_, ?_⟩
    · exact ex0 (by assumption)
    exact H
  clear H
  rintro ⟨i, d⟩ f_ w_ ⟨hi, hb, H⟩
  try simp only at hi hb H ⊢
  refine cI (fun c2 => ?_) (fun c2 => ?_)
  · replace c2 := vLt_t (c2)
    refine bk ?_
    obtain ⟨x1, hx1⟩ : ∃ x, (xs)[(i)]? = some x := ⟨_, List.getElem?_eq_getElem (by omega)⟩
    obtain ⟨b1, o1, E1, F1, hok1⟩ := FSl.elt hx hx1
    have hok1_pl := hok1.pl
    have hok1_fs := hok1.fs
    refine rIxE E1 rfl rfl rfl ?_
    refine rLdA (H.fat F1) 0 rfl rfl rfl ?_
    refine rAllocS H rfl ?_
    clear H
    intro p1 w2 H
    clear w_
    refine rStAS H 0 rfl rfl rfl (by simp only [List.all_cons, List.all_nil, FSl.one hok1_fs, FSl.one hx]; rfl) ?_
    clear H
    intro w3 H
    clear w2
    refine rFieldAt rfl ?_
    refine rLd (H.at 1 rfl) 0 rfl rfl rfl ?_
    refine cI (fun c3 => ?_) (fun c3 => ?_)
    · replace c3 := vNe_t (c3)
      refine Done.mk ?_
      refine ⟨d, ?_⟩
      refine ⟨?_, ?_⟩
      · exact ex2 (by omega) hb
      refine H.fronts [1] ?_
      clear H
      intro H
      refine H.drop 1 ?_
      clear H
      intro H
      exact H
    replace c3 := vNe_f (c3)
    refine rLdA (H.at 0 rfl) 0 rfl rfl rfl ?_
    refine H.fronts [1] ?_
    clear H
    intro H
    refine CallP.mk (Fc.imp (Go.Proofs.YtbbdfhgcmkljeaaGreatDoor.Bin.elem H _ ?_) ?_)
    · assumption
    clear H
    rintro va' w2 ⟨c4, ⟨h2, H⟩⟩
    refine eqI64 (by omega) ?_
    refine Nxt.mk ((i + 1, c4)) (mt_i rfl (by first | omega | (simp only; omega) | (simp; omega)) (mt_nil)) ?_ ?_
    · refine ⟨?_, ?_⟩
      · omega
      refine ⟨?_, ?_⟩
      · exact ex3 hx1 (by assumption) hb
      refine H.drop 1 ?_
      clear H
      intro H
      exact H
    omega
  replace c2 := vLt_f (c2)
  refine Done.mk ?_
  refine ⟨d, ?_⟩
  refine ⟨?_, ?_⟩
  · exact ex1 (by omega) hb
  exact H

theorem dat1 (H : Sat g w (Pt pc [.int .i64 b] 84 :: Pt q [.pointer (some ⟨pc, 0, none⟩)] 82 :: l)) (x : Int × List UInt8) (hx : okDt x) : Fc Tryz.prog 49 #[.agg #[.int .i64 x.1, .string (bs x.2)], .pointer (some ⟨q, 0, none⟩)] w (fun _ w' => ∃ c, FE b (datE x) c ∧ Sat g w' (Pt pc [.int .i64 c] 84 :: Pt q [.pointer (some ⟨pc, 0, none⟩)] 82 :: l)) := by
  refine Fc.of Tryz.func49 rfl (by kernel_rfl) ?_
  have hx_pl := hx.pl
  have hx_bytes := hx.bytes
  refine rBoxS H ?_
  clear H
  intro p1 w1 H
  refine rLd (H.at 2 rfl) 0 rfl rfl rfl ?_
  refine rFieldAt rfl ?_
  refine rLd (H.at 0 rfl) 0 rfl rfl rfl ?_
  refine H.fronts [1] ?_
  clear H
  intro H
  refine CallP.mk (Fc.imp (Go.Proofs.YtbbdfhgcmkljeaaGreatDoor.Bin.place H _ ?_) ?_)
  · assumption
  clear H
  rintro v' w2 ⟨c1, ⟨h1, H⟩⟩
  refine rLd (H.at 2 rfl) 0 rfl rfl rfl ?_
  refine rFieldAt rfl ?_
  refine rLd (H.at 1 rfl) 1 rfl rfl rfl ?_
  refine rLenStr rfl ?_
  refine CallP.mk (Fc.imp (Go.Proofs.YtbbdfhgcmkljeaaGreatDoor.Bin.need H _ _) ?_)
  clear H
  rintro va' w3 ⟨c2, ⟨h2, H⟩⟩
  refine Done.mk ?_
  refine ⟨c2, ?_⟩
  refine ⟨?_, ?_⟩
  · exact dt1 h1 (by assumption)
  refine H.fronts [2, 1] ?_
  clear H
  intro H
  refine H.drop 2 ?_
  clear H
  intro H
  exact H

theorem eachDt (H : Sat g w (Pt pc [.int .i64 b] 84 :: Pt q [.pointer (some ⟨pc, 0, none⟩)] 82 :: l)) (m : Int) (v : Value) (xs : List (Int × List UInt8)) (hx : FSl g enDt okDt 2 v xs) : Fc Tryz.prog 48 #[.pointer (some ⟨pc, 0, none⟩), v, .int .i64 m, .func (.func 49) #[] #[.pointer (some ⟨q, 0, none⟩)]] w (fun _ w' => ∃ c, FE b (eachE m datE xs) c ∧ Sat g w' (Pt pc [.int .i64 c] 84 :: Pt q [.pointer (some ⟨pc, 0, none⟩)] 82 :: l)) := by
  refine Fc.of Tryz.func48 rfl (by kernel_rfl) ?_
  have hbd := SlR.len hx
  refine rLenF hx rfl ?_
  refine CallP.mk (Fc.imp (Go.Proofs.YtbbdfhgcmkljeaaGreatDoor.Bin.need H _ _) ?_)
  clear H
  rintro v' w1 ⟨c1, ⟨h1, H⟩⟩
  refine rLenF hx rfl ?_
  refine LoopP.rule (α := Nat × Int) (0, c1) (fun x_ => [(18, .int .i64 x_.1)]) (fun x_ w_ => (x_.1 ≤ xs.length) ∧ (fst x_.2 (allE datE (xs.drop x_.1)) = fst b (eachE m datE xs)) ∧ Sat g w_ ((Pt pc [.int .i64 x_.2] 84 :: Pt q [.pointer (some ⟨pc, 0, none⟩)] 82 :: l))) (fun x_ => xs.length - x_.1) ?_ ?_ ?_
  · repeat first | exact mt_nil | refine mt_cons rfl ?_ | refine mt_i rfl (by first | omega | (simp only; omega) | (simp; omega) | (simp; done)) ?_
  · try simp only
    refine ⟨?_, ?_⟩
    · omega
    refine ⟨?_, ?_⟩
    · exact ex0 (by assumption)
    exact H
  clear H
  rintro ⟨i, d⟩ f_ w_ ⟨hi, hb, H⟩
  try simp only at hi hb H ⊢
  refine cI (fun c2 => ?_) (fun c2 => ?_)
  · replace c2 := vLt_t (c2)
    refine bk ?_
    obtain ⟨x1, hx1⟩ : ∃ x, (xs)[(i)]? = some x := ⟨_, List.getElem?_eq_getElem (by omega)⟩
    obtain ⟨b1, o1, E1, F1, hok1⟩ := FSl.elt hx hx1
    have hok1_pl := hok1.pl
    have hok1_bytes := hok1.bytes
    refine rIxE E1 rfl rfl rfl ?_
    refine rLdA (H.fat F1) 0 rfl rfl rfl ?_
    refine rAllocS H rfl ?_
    clear H
    intro p1 w2 H
    clear w_
    refine rStAS H 0 rfl rfl rfl rfl ?_
    clear H
    intro w3 H
    clear w2
    refine rFieldAt rfl ?_
    refine rLd (H.at 1 rfl) 0 rfl rfl rfl ?_
    refine cI (fun c3 => ?_) (fun c3 => ?_)
    · replace c3 := vNe_t (c3)
      refine Done.mk ?_
      refine ⟨d, ?_⟩
      refine ⟨?_, ?_⟩
      · exact ex2 (by omega) hb
      refine H.fronts [2, 2] ?_
      clear H
      intro H
      refine H.drop 2 ?_
      clear H
      intro H
      exact H
    replace c3 := vNe_f (c3)
    refine rLdA (H.at 0 rfl) 0 rfl rfl rfl ?_
    refine H.fronts [2, 2] ?_
    clear H
    intro H
    refine CallP.mk (Fc.imp (Go.Proofs.YtbbdfhgcmkljeaaGreatDoor.Bin.dat1 H _ ?_) ?_)
    · assumption
    clear H
    rintro va' w2 ⟨c4, ⟨h2, H⟩⟩
    refine eqI64 (by omega) ?_
    refine Nxt.mk ((i + 1, c4)) (mt_i rfl (by first | omega | (simp only; omega) | (simp; omega)) (mt_nil)) ?_ ?_
    · refine ⟨?_, ?_⟩
      · omega
      refine ⟨?_, ?_⟩
      · exact ex3 hx1 (by assumption) hb
      refine H.drop 2 ?_
      clear H
      intro H
      exact H
    omega
  replace c2 := vLt_f (c2)
  refine Done.mk ?_
  refine ⟨d, ?_⟩
  refine ⟨?_, ?_⟩
  · exact ex1 (by omega) hb
  exact H

end
end Go.Proofs.YtbbdfhgcmkljeaaGreatDoor.Bin
/- Package bin: Check. -/
set_option maxRecDepth 100000
set_option maxHeartbeats 4000000
set_option linter.unusedVariables false
set_option linter.unusedSimpArgs false
namespace Go.Proofs.YtbbdfhgcmkljeaaGreatDoor.Bin
open Go Go.Proofs.YtbbdfhgcmkljeaaGreatDoor.Eng Go.RowKit
open Ins Nest Leb
section
variable {g : Glob} {w : World} {l : List As}
theorem nd_ge {a : Int} : ndE (vLe 0 a) 1 = geE 0 a := by
  unfold ndE geE
  by_cases h : 0 ≤ a
  · rw [if_pos (by rw [vLe_iff]; simpa using h), if_pos h]
  · rw [if_neg (by rw [vLe_iff]; simpa using h), if_neg h]
theorem nd_pg {a m : Int} (h0 : 0 ≤ a) : ndE (vLe a m) 1 = pagE a m := by
  unfold ndE pagE
  by_cases h : a ≤ m
  · rw [if_pos (by rw [vLe_iff]; simpa using h), if_pos ⟨h0, h⟩]
  · rw [if_neg (by rw [vLe_iff]; simpa using h), if_neg (fun k => h k.2)]
theorem nd_pn {a m : Int} (h0 : a < 0) : ndE false 1 = pagE a m := by
  unfold ndE pagE
  rw [if_neg (by decide), if_neg (by omega)]
theorem chk_fin {m : ModV} {c1 c2 c3 c4 c5 c6 c7 c8 c9 c10 c11 c12 e4 e5 e6 e7 : Int} (h1 : FE 0 (eachE 16 (fun x => sigE x.d) m.types) c1) (h2 : FE c1 (eachE 16 impE m.imps) c2) (h3 : FE c2 (eachE 16 (fun x => funE x.d) m.funcs) c3)
    (h4 : FE c3 e4 c4) (h5 : FE c4 e5 c5) (h6 : FE c5 e6 c6) (h7 : FE c6 e7 c7) (h8 : FE c7 (eachE 8 gloE m.globals) c8) (h9 : FE c8 (eachE 8 impE m.exps) c9) (h10 : FE c9 (indexE m.start) c10)
    (h11 : FE c10 (eachE 4 (fun x => elE x.d) m.elems) c11) (h12 : FE c11 (eachE 4 datE m.data) c12) (k4 : e4 = geE 0 m.table) (k5 : e5 = leE m.table 16) (k6 : e6 = pagE m.pages m.most) (k7 : e7 = leE m.most 8) : c12 = chkM m.d := by
  subst k4 k5 k6 k7
  unfold FE at *
  subst h1 h2 h3 h4 h5 h6 h7 h8 h9 h10 h11 h12
  simp only [fst_assoc, fst_0]
  unfold chkM
  simp only [ModV.d, eachE_map]
theorem check (H : Sat g w l) (hT : U8F g) (m : ModV) (hm : okMd g m) : Fc Tryz.prog 7 #[.agg #[m.vt, m.vm, m.vf, .int .i64 m.table, .int .i64 m.pages, .int .i64 m.most, m.vg, m.vx, .int .i64 m.start, m.ve, m.vd]] w (fun v w' => (∃ e, v = .int .i64 e ∧ e = chkM m.d) ∧ Sat g w' l) := by
  refine Fc.of Tryz.func7 rfl (by kernel_rfl) ?_
  have hm_types := hm.types
  have hm_imps := hm.imps
  have hm_funcs := hm.funcs
  have hm_globals := hm.globals
  have hm_exps := hm.exps
  have hm_elems := hm.elems
  have hm_data := hm.data
  refine rBoxS H ?_
  clear H
  intro p1 w1 H
  refine rBuild rfl rfl rfl ?_
  refine rBoxS H ?_
  clear H
  intro p2 w2 H
  clear w1
  refine rAllocS H rfl ?_
  clear H
  intro p3 w1 H
  clear w2
  refine rStS H 0 rfl rfl rfl rfl ?_
  clear H
  intro w2 H
  clear w1
  refine rLd (H.at 0 rfl) 0 rfl rfl rfl ?_
  refine rFieldAt rfl ?_
  refine rLd (H.at 2 rfl) 0 rfl rfl rfl ?_
  refine rLd (H.at 0 rfl) 0 rfl rfl rfl ?_
  refine H.fronts [1] ?_
  clear H
  intro H
  refine CallP.mk (Fc.imp (Go.Proofs.YtbbdfhgcmkljeaaGreatDoor.Bin.eachSg H _ _ _ hm_types) ?_)
  clear H
  rintro v' w1 ⟨c1, ⟨h1, H⟩⟩
  refine rLd (H.at 1 rfl) 0 rfl rfl rfl ?_
  refine rFieldAt rfl ?_
  refine rLd (H.at 2 rfl) 1 rfl rfl rfl ?_
  refine CallP.mk (Fc.imp (Go.Proofs.YtbbdfhgcmkljeaaGreatDoor.Bin.eachIm H ?_ _ _ _ hm_imps) ?_)
  · assumption
  clear H
  rintro va' w3 ⟨c2, ⟨h2, H⟩⟩
  refine rLd (H.at 1 rfl) 0 rfl rfl rfl ?_
  refine rFieldAt rfl ?_
  refine rLd (H.at 2 rfl) 2 rfl rfl rfl ?_
  refine rLd (H.at 1 rfl) 0 rfl rfl rfl ?_
  refine CallP.mk (Fc.imp (Go.Proofs.YtbbdfhgcmkljeaaGreatDoor.Bin.eachFn H _ _ _ hm_funcs) ?_)
  clear H
  rintro vb' w4 ⟨c3, ⟨h3, H⟩⟩
  refine rLd (H.at 1 rfl) 0 rfl rfl rfl ?_
  refine rFieldAt rfl ?_
  refine rLd (H.at 2 rfl) 3 rfl rfl rfl ?_
  refine CallP.mk (Fc.imp (Go.Proofs.YtbbdfhgcmkljeaaGreatDoor.Bin.need H _ _) ?_)
  clear H
  rintro vc' w5 ⟨c4, ⟨h4, H⟩⟩
  refine rLd (H.at 1 rfl) 0 rfl rfl rfl ?_
  refine rFieldAt rfl ?_
  refine rLd (H.at 2 rfl) 3 rfl rfl rfl ?_
  refine CallP.mk (Fc.imp (Go.Proofs.YtbbdfhgcmkljeaaGreatDoor.Bin.need H _ _) ?_)
  clear H
  rintro vd' w6 ⟨c5, ⟨h5, H⟩⟩
  refine rLd (H.at 1 rfl) 0 rfl rfl rfl ?_
  refine rFieldAt rfl ?_
  refine rLd (H.at 2 rfl) 4 rfl rfl rfl ?_
  refine br (fun c6 => ?_) (fun c6 => ?_)
  · replace c6 := vLe_t (c6)
    refine rFieldAt rfl ?_
    refine rLd (H.at 2 rfl) 4 rfl rfl rfl ?_
    refine rFieldAt rfl ?_
    refine rLd (H.at 2 rfl) 5 rfl rfl rfl ?_
    refine CallP.mk (Fc.imp (Go.Proofs.YtbbdfhgcmkljeaaGreatDoor.Bin.need H _ _) ?_)
    clear H
    rintro ve' w7 ⟨c7, ⟨h6, H⟩⟩
    refine rLd (H.at 1 rfl) 0 rfl rfl rfl ?_
    refine rFieldAt rfl ?_
    refine rLd (H.at 2 rfl) 5 rfl rfl rfl ?_
    refine CallP.mk (Fc.imp (Go.Proofs.YtbbdfhgcmkljeaaGreatDoor.Bin.need H _ _) ?_)
    clear H
    rintro vf' w8 ⟨c8, ⟨h7, H⟩⟩
    refine rLd (H.at 1 rfl) 0 rfl rfl rfl ?_
    refine rFieldAt rfl ?_
    refine rLd (H.at 2 rfl) 6 rfl rfl rfl ?_
    refine CallP.mk (Fc.imp (Go.Proofs.YtbbdfhgcmkljeaaGreatDoor.Bin.eachGl H _ _ _ hm_globals) ?_)
    clear H
    rintro vg' w9 ⟨c9, ⟨h8, H⟩⟩
    refine rLd (H.at 1 rfl) 0 rfl rfl rfl ?_
    refine rFieldAt rfl ?_
    refine rLd (H.at 2 rfl) 7 rfl rfl rfl ?_
    refine rLd (H.at 1 rfl) 0 rfl rfl rfl ?_
    refine CallP.mk (Fc.imp (Go.Proofs.YtbbdfhgcmkljeaaGreatDoor.Bin.eachEx H ?_ _ _ _ hm_exps) ?_)
    · assumption
    clear H
    rintro vh' w10 ⟨c10, ⟨h9, H⟩⟩
    refine rLd (H.at 1 rfl) 0 rfl rfl rfl ?_
    refine rFieldAt rfl ?_
    refine rLd (H.at 2 rfl) 8 rfl rfl rfl ?_
    refine CallP.mk (Fc.imp (Go.Proofs.YtbbdfhgcmkljeaaGreatDoor.Bin.index H _) ?_)
    clear H
    rintro v' w11 ⟨c11, ⟨h10, H⟩⟩
    refine rLd (H.at 1 rfl) 0 rfl rfl rfl ?_
    refine rFieldAt rfl ?_
    refine rLd (H.at 2 rfl) 9 rfl rfl rfl ?_
    refine rLd (H.at 1 rfl) 0 rfl rfl rfl ?_
    refine CallP.mk (Fc.imp (Go.Proofs.YtbbdfhgcmkljeaaGreatDoor.Bin.eachEl H _ _ _ hm_elems) ?_)
    clear H
    rintro v' w12 ⟨c12, ⟨h11, H⟩⟩
    refine rLd (H.at 1 rfl) 0 rfl rfl rfl ?_
    refine rFieldAt rfl ?_
    refine rLd (H.at 2 rfl) 10 rfl rfl rfl ?_
    refine CallP.mk (Fc.imp (Go.Proofs.YtbbdfhgcmkljeaaGreatDoor.Bin.eachDt H _ _ _ hm_data) ?_)
    clear H
    rintro v' w13 ⟨c13, ⟨h12, H⟩⟩
    refine rLd (H.at 1 rfl) 0 rfl rfl rfl ?_
    refine rFieldAt rfl ?_
    refine rLd (H.at 0 rfl) 0 rfl rfl rfl ?_
    refine Done.mk ?_
    refine ⟨?_, ?_⟩
    · refine ⟨c13, ?_⟩
      refine ⟨?_, ?_⟩
      · refine int_eq ?_
        omega
      exact chk_fin h1 h2 h3 h4 h5 h6 h7 h8 h9 h10 h11 h12 nd_ge nd_le (nd_pg (by omega)) nd_le
    refine H.drop 2 ?_
    clear H
    intro H
    refine H.drop 1 ?_
    clear H
    intro H
    refine H.drop 0 ?_
    clear H
    intro H
    exact H
  replace c6 := vLe_f (c6)
  refine CallP.mk (Fc.imp (Go.Proofs.YtbbdfhgcmkljeaaGreatDoor.Bin.need H _ _) ?_)
  clear H
  rintro ve' w7 ⟨c7, ⟨h6, H⟩⟩
  refine rLd (H.at 1 rfl) 0 rfl rfl rfl ?_
  refine rFieldAt rfl ?_
  refine rLd (H.at 2 rfl) 5 rfl rfl rfl ?_
  refine CallP.mk (Fc.imp (Go.Proofs.YtbbdfhgcmkljeaaGreatDoor.Bin.need H _ _) ?_)
  clear H
  rintro vf' w8 ⟨c8, ⟨h7, H⟩⟩
  refine rLd (H.at 1 rfl) 0 rfl rfl rfl ?_
  refine rFieldAt rfl ?_
  refine rLd (H.at 2 rfl) 6 rfl rfl rfl ?_
  refine CallP.mk (Fc.imp (Go.Proofs.YtbbdfhgcmkljeaaGreatDoor.Bin.eachGl H _ _ _ hm_globals) ?_)
  clear H
  rintro vg' w9 ⟨c9, ⟨h8, H⟩⟩
  refine rLd (H.at 1 rfl) 0 rfl rfl rfl ?_
  refine rFieldAt rfl ?_
  refine rLd (H.at 2 rfl) 7 rfl rfl rfl ?_
  refine rLd (H.at 1 rfl) 0 rfl rfl rfl ?_
  refine CallP.mk (Fc.imp (Go.Proofs.YtbbdfhgcmkljeaaGreatDoor.Bin.eachEx H ?_ _ _ _ hm_exps) ?_)
  · assumption
  clear H
  rintro vh' w10 ⟨c10, ⟨h9, H⟩⟩
  refine rLd (H.at 1 rfl) 0 rfl rfl rfl ?_
  refine rFieldAt rfl ?_
  refine rLd (H.at 2 rfl) 8 rfl rfl rfl ?_
  refine CallP.mk (Fc.imp (Go.Proofs.YtbbdfhgcmkljeaaGreatDoor.Bin.index H _) ?_)
  clear H
  rintro v' w11 ⟨c11, ⟨h10, H⟩⟩
  refine rLd (H.at 1 rfl) 0 rfl rfl rfl ?_
  refine rFieldAt rfl ?_
  refine rLd (H.at 2 rfl) 9 rfl rfl rfl ?_
  refine rLd (H.at 1 rfl) 0 rfl rfl rfl ?_
  refine CallP.mk (Fc.imp (Go.Proofs.YtbbdfhgcmkljeaaGreatDoor.Bin.eachEl H _ _ _ hm_elems) ?_)
  clear H
  rintro v' w12 ⟨c12, ⟨h11, H⟩⟩
  refine rLd (H.at 1 rfl) 0 rfl rfl rfl ?_
  refine rFieldAt rfl ?_
  refine rLd (H.at 2 rfl) 10 rfl rfl rfl ?_
  refine CallP.mk (Fc.imp (Go.Proofs.YtbbdfhgcmkljeaaGreatDoor.Bin.eachDt H _ _ _ hm_data) ?_)
  clear H
  rintro v' w13 ⟨c13, ⟨h12, H⟩⟩
  refine rLd (H.at 1 rfl) 0 rfl rfl rfl ?_
  refine rFieldAt rfl ?_
  refine rLd (H.at 0 rfl) 0 rfl rfl rfl ?_
  refine Done.mk ?_
  refine ⟨?_, ?_⟩
  · refine ⟨c13, ?_⟩
    refine ⟨?_, ?_⟩
    · refine int_eq ?_
      omega
    exact chk_fin h1 h2 h3 h4 h5 h6 h7 h8 h9 h10 h11 h12 nd_ge nd_le (nd_pn (by omega)) nd_le
  refine H.drop 2 ?_
  clear H
  intro H
  refine H.drop 1 ?_
  clear H
  intro H
  refine H.drop 0 ?_
  clear H
  intro H
  exact H
end
end Go.Proofs.YtbbdfhgcmkljeaaGreatDoor.Bin
/- Package bin: what Write calls. -/
set_option maxRecDepth 100000
set_option maxHeartbeats 4000000
set_option linter.unusedVariables false
set_option linter.unusedSimpArgs false
namespace Go.Proofs.YtbbdfhgcmkljeaaGreatDoor.Bin
open Go Go.Proofs.YtbbdfhgcmkljeaaGreatDoor.Eng Go.RowKit
open Ins Nest Leb
section
variable {g : Glob} {w : World} {l : List As} {q : Nat}
theorem kindE_0 {k : Int} (h : kindE k = 0) : k = 127 ∨ k = 126 := by
  unfold kindE at h
  split at h
  · assumption
  · cases h
theorem indexE_0 {k : Int} (h : indexE k = 0) : 0 ≤ k ∧ k ≤ 4294967295 := by
  unfold indexE at h
  split at h
  · assumption
  · cases h
theorem placeE_0 {k : Int} (h : placeE k = 0) : -2147483648 ≤ k ∧ k ≤ 2147483647 := by
  unfold placeE at h
  split at h
  · assumption
  · cases h
theorem manyE_0 {n : Nat} {m : Int} (h : manyE n m = 0) : (n : Int) ≤ m := by
  unfold manyE at h
  split at h
  · assumption
  · cases h
theorem nameE_0 {s : List UInt8} (h : nameE s = 0) : s.length ≤ 16 := by
  unfold nameE at h
  split at h
  · cases h
  · omega
theorem byt_n {n : Int} (h : 0 ≤ n ∧ n ≤ 255) : UInt8.ofNat n.toNat = byt n := by unfold byt; rw [Int.emod_eq_of_lt (by omega) (by omega)]
theorem number (n : Int) (hn : 0 ≤ n ∧ n ≤ 9223372036854775807) (w : World) : Fc Tryz.prog 19 #[.int .i64 n] w (fun v w' => (∃ t, v = .string (bs t) ∧ t = numT n ∧ t.length ≤ 10) ∧ Sat (froz w) w' []) := by
  obtain ⟨k, rfl⟩ : ∃ k : Nat, n = k := ⟨n.toNat, by omega⟩
  refine Fc.of Tryz.func19 rfl (by kernel_rfl) ?_
  have H := Sat.start w
  refine rConvU64 (by omega) rfl rfl ?_
  refine CallP.mk (Fc.imp (Go.Proofs.YtbbdfhgcmkljeaaGreatDoor.Leb.U _ (k) ?_ ?_ _) ?_)
  · omega
  · omega
  rintro _ w1 ⟨l1, ⟨rfl, ⟨h1, ⟨h2, H'⟩⟩⟩⟩
  refine H.mergeK H' ?_
  clear H H'
  intro H
  refine Done.mk ?_
  refine ⟨?_, ?_⟩
  · refine ⟨l1, ?_⟩
    refine ⟨?_, ?_⟩
    · rfl
    refine ⟨?_, ?_⟩
    · assumption
    assumption
  exact H
theorem name1 (H : Sat g w l) (hT : U8F g) (s : List UInt8) (hs : nameE s = 0) : Fc Tryz.prog 18 #[.string (bs s)] w (fun v w' => ∃ t, v = .string (bs t) ∧ t = nameT s ∧ t.length ≤ 30 ∧ Sat g w' l) := by
  have h16 := nameE_0 hs
  refine Fc.of Tryz.func18 rfl (by kernel_rfl) ?_
  refine CallP.mk (Fc.imp (Go.Proofs.YtbbdfhgcmkljeaaGreatDoor.Leb.name H ?_ _ ?_) ?_)
  · assumption
  · omega
  clear H
  rintro _ w1 ⟨t1, ⟨e1, ⟨rfl, ⟨h1, ⟨h2, ⟨h3, H⟩⟩⟩⟩⟩⟩
  refine Done.mk ?_
  refine ⟨t1, ?_⟩
  refine ⟨?_, ?_⟩
  · rfl
  refine ⟨?_, ?_⟩
  · (rw [h2, if_pos hs]; rfl)
  refine ⟨?_, ?_⟩
  · assumption
  exact H
theorem kinds (H : Sat g w l) (v : Value) (xs : List Int) (hx : FSl g enK U8 1 v xs) (hl : xs.length ≤ 16) : Fc Tryz.prog 15 #[v] w (fun r w' => ∃ t, r = .string (bs t) ∧ t = kindsT xs ∧ t.length ≤ 26 ∧ Sat g w' l) := by
  refine Fc.of Tryz.func15 rfl (by kernel_rfl) ?_
  refine rLenF hx rfl ?_
  refine CallP.mk (Fc.imp (Go.Proofs.YtbbdfhgcmkljeaaGreatDoor.Bin.number _ ?_ _) ?_)
  · omega
  rintro _ w1 ⟨⟨t1, ⟨rfl, ⟨h1, h2⟩⟩⟩, H'⟩
  refine H.mergeK H' ?_
  clear H H'
  intro H
  refine rLenF hx rfl ?_
  refine LoopP.rule (α := Nat × List UInt8) (0, t1) (fun x_ => [(11, .int .i64 x_.1), (3, .string (bs x_.2))]) (fun x_ w_ => (x_.1 ≤ xs.length) ∧ (x_.2 = uleb xs.length ++ (xs.take x_.1).map byt) ∧ (x_.2.length ≤ 10 + x_.1) ∧ Sat g w_ (l)) (fun x_ => xs.length - x_.1) ?_ ?_ ?_
  · repeat first | exact mt_nil | refine mt_cons rfl ?_ | refine mt_i rfl (by first | omega | (simp only; omega) | (simp; omega) | (simp; done)) ?_
  · try simp only
    refine ⟨?_, ?_⟩
    · omega
    refine ⟨?_, ?_⟩
    · (rw [h1]; simp [numT])
    refine ⟨?_, ?_⟩
    · (rw [h1]; simp [numT])
      (rw [h1] at h2; exact h2)
    exact H
  clear H
  rintro ⟨i, ot⟩ f_ w_ ⟨hi, hot, hln, H⟩
  try simp only at hi hot hln H ⊢
  refine cI (fun c1 => ?_) (fun c1 => ?_)
  · replace c1 := vLt_t (c1)
    refine bk ?_
    obtain ⟨x1, hx1⟩ : ∃ x, (xs)[(i)]? = some x := ⟨_, List.getElem?_eq_getElem (by omega)⟩
    obtain ⟨b1, o1, E1, F1, hok1⟩ := FSl.elt hx hx1
    refine rIxE E1 rfl rfl rfl ?_
    refine rLd (H.fat F1) 0 rfl rfl rfl ?_
    refine rBuildSliceS H rfl rfl rfl rfl ?_
    clear H
    intro p1 w2 H
    clear w_
    have hbk1 := byteIs (x := x1) (n := (x1).toNat) (by omega)
    rw [hbk1] at H
    clear hbk1
    refine H.ptSl (n := 1) (en := enY) (s := 1) 0 rfl [_] rfl rfl (fun _ => rfl) rfl ?_
    clear H
    intro H
    refine rBytesStrS H 0 rfl rfl rfl rfl ?_
    refine rCat (by (simp only [List.length_append, List.length_set, List.length_cons, List.length_nil]; omega)) ?_
    refine eqI64 (by omega) ?_
    refine Nxt.mk ((i + 1, ot ++ [UInt8.ofNat x1.toNat])) (mt_i rfl (by first | omega | (simp only; omega) | (simp; omega)) (mt_cons rfl (mt_nil))) ?_ ?_
    · refine ⟨?_, ?_⟩
      · omega
      refine ⟨?_, ?_⟩
      · (rw [hot, List.take_add_one, hx1, List.map_append, byt_n (by omega)]; simp)
      refine ⟨?_, ?_⟩
      · (simp only [List.length_append, List.length_set, List.length_cons, List.length_nil]; omega)
      refine H.drop 0 ?_
      clear H
      intro H
      exact H
    omega
  replace c1 := vLt_f (c1)
  refine Done.mk ?_
  refine ⟨ot, ?_⟩
  refine ⟨?_, ?_⟩
  · rfl
  refine ⟨?_, ?_⟩
  · (rw [hot, List.take_of_length_le (by omega)]; rfl)
  refine ⟨?_, ?_⟩
  · omega
  exact H

theorem sig2 (H : Sat g w l) (x : SigV) (hx : okSg g x) (he : sigE x.d = 0) : Fc Tryz.prog 14 #[.agg #[x.vi, x.vo]] w (fun r w' => ∃ t, r = .string (bs t) ∧ t = sigT x.d ∧ t.length ≤ 53 ∧ Sat g w' l) := by
  refine Fc.of Tryz.func14 rfl (by kernel_rfl) ?_
  have hx_inn := hx.inn
  have hx_out := hx.out
  obtain ⟨he1, he2⟩ := fst_eq0.1 he
  have hl1 := (eachE_0.1 he1).1
  have hl2 := (eachE_0.1 he2).1
  simp only [SigV.d] at hl1 hl2
  refine rBoxS H ?_
  clear H
  intro p1 w1 H
  refine drawzS H [] [(0, .pure), (1, .held), (4, .pure), (5, .held), (2, .forced), (3, .pure), (6, .free), (7, .pure), (8, .pure)] mixed (by kernel_rfl) (by kernel_rfl) ?_
  clear H
  intro w2 H
  clear w1
  refine tk (fun wx HS => rFieldAt rfl ⟨rfl, rfl⟩) ?_
  refine tk (fun wx HS => rLd (HS.at 0 rfl) 0 rfl rfl rfl ⟨rfl, rfl⟩) ?_
  refine tk (fun wx HS => rFieldAt rfl ⟨rfl, rfl⟩) ?_
  refine tk (fun wx HS => rLd (HS.at 0 rfl) 1 rfl rfl rfl ⟨rfl, rfl⟩) ?_
  refine CallP.mk (Fc.imp (Go.Proofs.YtbbdfhgcmkljeaaGreatDoor.Bin.kinds H _ _ hx_inn ?_) ?_)
  · omega
  clear H
  rintro _ w1 ⟨t1, ⟨rfl, ⟨h1, ⟨h2, H⟩⟩⟩⟩
  refine KeepP.mk (H) ?_
  refine tk (fun wx HS => rCat (by (simp only [List.length_append, List.length_set, List.length_cons, List.length_nil]; omega)) ⟨rfl, rfl⟩) ?_
  refine CallP.mk (Fc.imp (Go.Proofs.YtbbdfhgcmkljeaaGreatDoor.Bin.kinds H _ _ hx_out ?_) ?_)
  · omega
  clear H
  rintro _ w3 ⟨t2, ⟨rfl, ⟨h3, ⟨h4, H⟩⟩⟩⟩
  refine tk (fun wx HS => rCat (by (simp only [List.length_append, List.length_set, List.length_cons, List.length_nil]; omega)) ⟨rfl, rfl⟩) ?_
  refine Done.mk ?_
  refine ⟨[96] ++ t1 ++ t2, ?_⟩
  refine ⟨?_, ?_⟩
  · rfl
  refine ⟨?_, ?_⟩
  · (rw [h1, h3]; simp [sigT, SigV.d])
  refine ⟨?_, ?_⟩
  · (rw [h1, h3]; simp [sigT, SigV.d])
    (rw [h1] at h2; rw [h3] at h4; omega)
  refine H.drop 0 ?_
  clear H
  intro H
  exact H

theorem listSg (H : Sat g w l) (v : Value) (xs : List SigV) (hx : FSl g enSg (okSg g) 2 v xs) (hl : xs.length ≤ 16) (he : ∀ x ∈ xs, sigE x.d = 0) : Fc Tryz.prog 13 #[v, .func (.func 14) #[] #[]] w (fun r w' => ∃ t, r = .string (bs t) ∧ t = listT (fun x : SigV => sigT x.d) xs ∧ t.length ≤ 858 ∧ Sat g w' l) := by
  refine Fc.of Tryz.func13 rfl (by kernel_rfl) ?_
  refine rLenF hx rfl ?_
  refine cI (fun c1 => ?_) (fun c1 => ?_)
  · replace c1 := vEq_t (c1)
    refine Done.mk ?_
    refine ⟨[], ?_⟩
    refine ⟨?_, ?_⟩
    · rfl
    refine ⟨?_, ?_⟩
    · exact (if_pos (List.eq_nil_of_length_eq_zero (by omega))).symm
    refine ⟨?_, ?_⟩
    · (simp only [List.length_append, List.length_set, List.length_cons, List.length_nil]; omega)
    exact H
  replace c1 := vEq_f (c1)
  refine rLenF hx rfl ?_
  refine CallP.mk (Fc.imp (Go.Proofs.YtbbdfhgcmkljeaaGreatDoor.Bin.number _ ?_ _) ?_)
  · omega
  rintro _ w1 ⟨⟨t1, ⟨rfl, ⟨h1, h2⟩⟩⟩, H'⟩
  refine H.mergeK H' ?_
  clear H H'
  intro H
  refine rLenF hx rfl ?_
  have hne : xs ≠ [] := fun h => c1 (by rw [h]; rfl)
  refine LoopP.rule (α := Nat × List UInt8) (0, t1) (fun x_ => [(16, .int .i64 x_.1), (5, .string (bs x_.2))]) (fun x_ w_ => (x_.1 ≤ xs.length) ∧ (x_.2 = uleb xs.length ++ (xs.take x_.1).flatMap (fun x : SigV => sigT x.d)) ∧ (x_.2.length ≤ 10 + 53 * x_.1) ∧ Sat g w_ (l)) (fun x_ => xs.length - x_.1) ?_ ?_ ?_
  · repeat first | exact mt_nil | refine mt_cons rfl ?_ | refine mt_i rfl (by first | omega | (simp only; omega) | (simp; omega) | (simp; done)) ?_
  · try simp only
    refine ⟨?_, ?_⟩
    · omega
    refine ⟨?_, ?_⟩
    · (rw [h1]; simp [numT])
    refine ⟨?_, ?_⟩
    · (rw [h1]; simp [numT])
      (rw [h1] at h2; exact h2)
    exact H
  clear H
  rintro ⟨i, ot⟩ f_ w_ ⟨hi, hot, hln, H⟩
  try simp only at hi hot hln H ⊢
  refine cI (fun c2 => ?_) (fun c2 => ?_)
  · replace c2 := vLt_t (c2)
    refine bk ?_
    obtain ⟨x1, hx1⟩ : ∃ x, (xs)[(i)]? = some x := ⟨_, List.getElem?_eq_getElem (by omega)⟩
    obtain ⟨b1, o1, E1, F1, hok1⟩ := FSl.elt hx hx1
    have hok1_inn := hok1.inn
    have hok1_out := hok1.out
    refine rIxE E1 rfl rfl rfl ?_
    refine rLdA (H.fat F1) 0 rfl rfl rfl ?_
    refine rAllocS H rfl ?_
    clear H
    intro p1 w2 H
    clear w_
    refine rStAS H 0 rfl rfl rfl (by simp only [List.all_cons, List.all_nil, FSl.one hok1_out, FSl.one hok1_inn, FSl.one hx]; rfl) ?_
    clear H
    intro w3 H
    clear w2
    refine rLdA (H.at 0 rfl) 0 rfl rfl rfl ?_
    refine CallP.mk (Fc.imp (Go.Proofs.YtbbdfhgcmkljeaaGreatDoor.Bin.sig2 H _ ?_ ?_) ?_)
    · assumption
    · exact he _ (List.mem_of_getElem? hx1)
    clear H
    rintro _ w2 ⟨t2, ⟨rfl, ⟨h3, ⟨h4, H⟩⟩⟩⟩
    refine rCat (by omega) ?_
    refine eqI64 (by omega) ?_
    refine Nxt.mk ((i + 1, ot ++ t2)) (mt_i rfl (by first | omega | (simp only; omega) | (simp; omega)) (mt_cons rfl (mt_nil))) ?_ ?_
    · refine ⟨?_, ?_⟩
      · omega
      refine ⟨?_, ?_⟩
      · (rw [hot, List.append_assoc, flat_snoc hx1]; simp [*])
      refine ⟨?_, ?_⟩
      · (simp only [List.length_append, List.length_set, List.length_cons, List.length_nil]; omega)
      refine H.drop 0 ?_
      clear H
      intro H
      exact H
    omega
  replace c2 := vLt_f (c2)
  refine Done.mk ?_
  refine ⟨ot, ?_⟩
  refine ⟨?_, ?_⟩
  · rfl
  refine ⟨?_, ?_⟩
  · (rw [hot, List.take_of_length_le (by omega)]; exact (if_neg hne).symm)
  refine ⟨?_, ?_⟩
  · omega
  exact H

theorem imp2 (H : Sat g w l) (hT : U8F g) (x : List UInt8 × Int) (hx : okIm x) (he : impE x = 0) : Fc Tryz.prog 17 #[.agg #[.string (bs x.1), .int .i64 x.2]] w (fun r w' => ∃ t, r = .string (bs t) ∧ t = impT x ∧ t.length ≤ 46 ∧ Sat g w' l) := by
  refine Fc.of Tryz.func17 rfl (by kernel_rfl) ?_
  have hx_name := hx.name
  have hx_ty := hx.ty
  obtain ⟨he1, he2⟩ := fst_eq0.1 he
  have hi2 := indexE_0 he2
  refine rBoxS H ?_
  clear H
  intro p1 w1 H
  refine drawzS H [] [(0, .pure), (1, .held), (5, .pure), (6, .held), (2, .forced), (3, .pure), (4, .pure), (7, .free), (8, .pure), (9, .pure)] mixed (by kernel_rfl) (by kernel_rfl) ?_
  clear H
  intro w2 H
  clear w1
  refine tk (fun wx HS => rFieldAt rfl ⟨rfl, rfl⟩) ?_
  refine tk (fun wx HS => rLd (HS.at 0 rfl) 0 rfl rfl rfl ⟨rfl, rfl⟩) ?_
  refine tk (fun wx HS => rFieldAt rfl ⟨rfl, rfl⟩) ?_
  refine tk (fun wx HS => rLd (HS.at 0 rfl) 1 rfl rfl rfl ⟨rfl, rfl⟩) ?_
  refine CallP.mk (Fc.imp (Go.Proofs.YtbbdfhgcmkljeaaGreatDoor.Bin.name1 H ?_ _ ?_) ?_)
  · assumption
  · assumption
  clear H
  rintro _ w1 ⟨t1, ⟨rfl, ⟨h1, ⟨h2, H⟩⟩⟩⟩
  refine KeepP.mk (H) ?_
  refine tk (fun wx HS => rCat (by (simp only [List.length_append, List.length_set, List.length_cons, List.length_nil]; omega)) ⟨rfl, rfl⟩) ?_
  refine tk (fun wx HS => rCat (by (simp only [List.length_append, List.length_set, List.length_cons, List.length_nil]; omega)) ⟨rfl, rfl⟩) ?_
  refine CallP.mk (Fc.imp (Go.Proofs.YtbbdfhgcmkljeaaGreatDoor.Bin.number _ ?_ _) ?_)
  · omega
  rintro _ w3 ⟨⟨t2, ⟨rfl, ⟨h3, h4⟩⟩⟩, H'⟩
  refine H.mergeK H' ?_
  clear H H'
  intro H
  refine tk (fun wx HS => rCat (by (simp only [List.length_append, List.length_set, List.length_cons, List.length_nil]; omega)) ⟨rfl, rfl⟩) ?_
  refine Done.mk ?_
  refine ⟨[4, 104, 111, 115, 116] ++ t1 ++ [0] ++ t2, ?_⟩
  refine ⟨?_, ?_⟩
  · rfl
  refine ⟨?_, ?_⟩
  · (rw [h1, h3]; simp [impT])
  refine ⟨?_, ?_⟩
  · (rw [h1, h3]; simp [impT])
    (rw [h1] at h2; rw [h3] at h4; omega)
  refine H.drop 0 ?_
  clear H
  intro H
  exact H

theorem listIm (H : Sat g w l) (hT : U8F g) (v : Value) (xs : List (List UInt8 × Int)) (hx : FSl g enIm okIm 2 v xs) (hl : xs.length ≤ 16) (he : ∀ x ∈ xs, impE x = 0) : Fc Tryz.prog 16 #[v, .func (.func 17) #[] #[]] w (fun r w' => ∃ t, r = .string (bs t) ∧ t = listT (fun x : (List UInt8 × Int) => impT x) xs ∧ t.length ≤ 746 ∧ Sat g w' l) := by
  refine Fc.of Tryz.func16 rfl (by kernel_rfl) ?_
  refine rLenF hx rfl ?_
  refine cI (fun c1 => ?_) (fun c1 => ?_)
  · replace c1 := vEq_t (c1)
    refine Done.mk ?_
    refine ⟨[], ?_⟩
    refine ⟨?_, ?_⟩
    · rfl
    refine ⟨?_, ?_⟩
    · exact (if_pos (List.eq_nil_of_length_eq_zero (by omega))).symm
    refine ⟨?_, ?_⟩
    · (simp only [List.length_append, List.length_set, List.length_cons, List.length_nil]; omega)
    exact H
  replace c1 := vEq_f (c1)
  refine rLenF hx rfl ?_
  refine CallP.mk (Fc.imp (Go.Proofs.YtbbdfhgcmkljeaaGreatDoor.Bin.number _ ?_ _) ?_)
  · omega
  rintro _ w1 ⟨⟨t1, ⟨rfl, ⟨h1, h2⟩⟩⟩, H'⟩
  refine H.mergeK H' ?_
  clear H H'
  intro H
  refine rLenF hx rfl ?_
  have hne : xs ≠ [] := fun h => c1 (by rw [h]; rfl)
  refine LoopP.rule (α := Nat × List UInt8) (0, t1) (fun x_ => [(16, .int .i64 x_.1), (5, .string (bs x_.2))]) (fun x_ w_ => (x_.1 ≤ xs.length) ∧ (x_.2 = uleb xs.length ++ (xs.take x_.1).flatMap (fun x : (List UInt8 × Int) => impT x)) ∧ (x_.2.length ≤ 10 + 46 * x_.1) ∧ Sat g w_ (l)) (fun x_ => xs.length - x_.1) ?_ ?_ ?_
  · repeat first | exact mt_nil | refine mt_cons rfl ?_ | refine mt_i rfl (by first | omega | (simp only; omega) | (simp; omega) | (simp; done)) ?_
  · try simp only
    refine ⟨?_, ?_⟩
    · omega
    refine ⟨?_, ?_⟩
    · (rw [h1]; simp [numT])
    refine ⟨?_, ?_⟩
    · (rw [h1]; simp [numT])
      (rw [h1] at h2; exact h2)
    exact H
  clear H
  rintro ⟨i, ot⟩ f_ w_ ⟨hi, hot, hln, H⟩
  try simp only at hi hot hln H ⊢
  refine cI (fun c2 => ?_) (fun c2 => ?_)
  · replace c2 := vLt_t (c2)
    refine bk ?_
    obtain ⟨x1, hx1⟩ : ∃ x, (xs)[(i)]? = some x := ⟨_, List.getElem?_eq_getElem (by omega)⟩
    obtain ⟨b1, o1, E1, F1, hok1⟩ := FSl.elt hx hx1
    have hok1_name := hok1.name
    have hok1_ty := hok1.ty
    refine rIxE E1 rfl rfl rfl ?_
    refine rLdA (H.fat F1) 0 rfl rfl rfl ?_
    refine rAllocS H rfl ?_
    clear H
    intro p1 w2 H
    clear w_
    refine rStAS H 0 rfl rfl rfl rfl ?_
    clear H
    intro w3 H
    clear w2
    refine rLdA (H.at 0 rfl) 0 rfl rfl rfl ?_
    refine CallP.mk (Fc.imp (Go.Proofs.YtbbdfhgcmkljeaaGreatDoor.Bin.imp2 H ?_ _ ?_ ?_) ?_)
    · assumption
    · assumption
    · exact he _ (List.mem_of_getElem? hx1)
    clear H
    rintro _ w2 ⟨t2, ⟨rfl, ⟨h3, ⟨h4, H⟩⟩⟩⟩
    refine rCat (by omega) ?_
    refine eqI64 (by omega) ?_
    refine Nxt.mk ((i + 1, ot ++ t2)) (mt_i rfl (by first | omega | (simp only; omega) | (simp; omega)) (mt_cons rfl (mt_nil))) ?_ ?_
    · refine ⟨?_, ?_⟩
      · omega
      refine ⟨?_, ?_⟩
      · (rw [hot, List.append_assoc, flat_snoc hx1]; simp [*])
      refine ⟨?_, ?_⟩
      · (simp only [List.length_append, List.length_set, List.length_cons, List.length_nil]; omega)
      refine H.drop 0 ?_
      clear H
      intro H
      exact H
    omega
  replace c2 := vLt_f (c2)
  refine Done.mk ?_
  refine ⟨ot, ?_⟩
  refine ⟨?_, ?_⟩
  · rfl
  refine ⟨?_, ?_⟩
  · (rw [hot, List.take_of_length_le (by omega)]; exact (if_neg hne).symm)
  refine ⟨?_, ?_⟩
  · omega
  exact H

theorem fty2 (H : Sat g w l) (x : FunV) (hx : okFn g x) (he : funE x.d = 0) : Fc Tryz.prog 21 #[.agg #[.int .i64 x.ty, x.vl, x.vb]] w (fun r w' => ∃ t, r = .string (bs t) ∧ t = numT x.d.ty ∧ t.length ≤ 10 ∧ Sat g w' l) := by
  refine Fc.of Tryz.func21 rfl (by kernel_rfl) ?_
  have hx_ty := hx.ty
  have hi2 := indexE_0 (fst_eq0.1 he).1
  simp only [FunV.d] at hi2 ⊢
  refine rBoxS H ?_
  clear H
  intro p1 w1 H
  refine rFieldAt rfl ?_
  refine rLd (H.at 0 rfl) 0 rfl rfl rfl ?_
  refine CallP.mk (Fc.imp (Go.Proofs.YtbbdfhgcmkljeaaGreatDoor.Bin.number _ ?_ _) ?_)
  · omega
  rintro _ w2 ⟨⟨t1, ⟨rfl, ⟨h1, h2⟩⟩⟩, H'⟩
  refine H.mergeK H' ?_
  clear H H'
  intro H
  refine Done.mk ?_
  refine ⟨t1, ?_⟩
  refine ⟨?_, ?_⟩
  · rfl
  refine ⟨?_, ?_⟩
  · assumption
  refine ⟨?_, ?_⟩
  · assumption
  refine H.drop 0 ?_
  clear H
  intro H
  exact H

theorem listFt (H : Sat g w l) (v : Value) (xs : List FunV) (hx : FSl g enFn (okFn g) 3 v xs) (hl : xs.length ≤ 16) (he : ∀ x ∈ xs, funE x.d = 0) : Fc Tryz.prog 20 #[v, .func (.func 21) #[] #[]] w (fun r w' => ∃ t, r = .string (bs t) ∧ t = listT (fun x : FunV => numT x.d.ty) xs ∧ t.length ≤ 170 ∧ Sat g w' l) := by
  refine Fc.of Tryz.func20 rfl (by kernel_rfl) ?_
  refine rLenF hx rfl ?_
  refine cI (fun c1 => ?_) (fun c1 => ?_)
  · replace c1 := vEq_t (c1)
    refine Done.mk ?_
    refine ⟨[], ?_⟩
    refine ⟨?_, ?_⟩
    · rfl
    refine ⟨?_, ?_⟩
    · exact (if_pos (List.eq_nil_of_length_eq_zero (by omega))).symm
    refine ⟨?_, ?_⟩
    · (simp only [List.length_append, List.length_set, List.length_cons, List.length_nil]; omega)
    exact H
  replace c1 := vEq_f (c1)
  refine rLenF hx rfl ?_
  refine CallP.mk (Fc.imp (Go.Proofs.YtbbdfhgcmkljeaaGreatDoor.Bin.number _ ?_ _) ?_)
  · omega
  rintro _ w1 ⟨⟨t1, ⟨rfl, ⟨h1, h2⟩⟩⟩, H'⟩
  refine H.mergeK H' ?_
  clear H H'
  intro H
  refine rLenF hx rfl ?_
  have hne : xs ≠ [] := fun h => c1 (by rw [h]; rfl)
  refine LoopP.rule (α := Nat × List UInt8) (0, t1) (fun x_ => [(16, .int .i64 x_.1), (5, .string (bs x_.2))]) (fun x_ w_ => (x_.1 ≤ xs.length) ∧ (x_.2 = uleb xs.length ++ (xs.take x_.1).flatMap (fun x : FunV => numT x.d.ty)) ∧ (x_.2.length ≤ 10 + 10 * x_.1) ∧ Sat g w_ (l)) (fun x_ => xs.length - x_.1) ?_ ?_ ?_
  · repeat first | exact mt_nil | refine mt_cons rfl ?_ | refine mt_i rfl (by first | omega | (simp only; omega) | (simp; omega) | (simp; done)) ?_
  · try simp only
    refine ⟨?_, ?_⟩
    · omega
    refine ⟨?_, ?_⟩
    · (rw [h1]; simp [numT])
    refine ⟨?_, ?_⟩
    · (rw [h1]; simp [numT])
      (rw [h1] at h2; exact h2)
    exact H
  clear H
  rintro ⟨i, ot⟩ f_ w_ ⟨hi, hot, hln, H⟩
  try simp only at hi hot hln H ⊢
  refine cI (fun c2 => ?_) (fun c2 => ?_)
  · replace c2 := vLt_t (c2)
    refine bk ?_
    obtain ⟨x1, hx1⟩ : ∃ x, (xs)[(i)]? = some x := ⟨_, List.getElem?_eq_getElem (by omega)⟩
    obtain ⟨b1, o1, E1, F1, hok1⟩ := FSl.elt hx hx1
    have hok1_ty := hok1.ty
    have hok1_loc := hok1.loc
    have hok1_body := hok1.body
    refine rIxE E1 rfl rfl rfl ?_
    refine rLdA (H.fat F1) 0 rfl rfl rfl ?_
    refine rAllocS H rfl ?_
    clear H
    intro p1 w2 H
    clear w_
    refine rStAS H 0 rfl rfl rfl (by simp only [List.all_cons, List.all_nil, FSl.one hok1_body, FSl.one hok1_loc, FSl.one hx]; rfl) ?_
    clear H
    intro w3 H
    clear w2
    refine rLdA (H.at 0 rfl) 0 rfl rfl rfl ?_
    refine CallP.mk (Fc.imp (Go.Proofs.YtbbdfhgcmkljeaaGreatDoor.Bin.fty2 H _ ?_ ?_) ?_)
    · assumption
    · exact he _ (List.mem_of_getElem? hx1)
    clear H
    rintro _ w2 ⟨t2, ⟨rfl, ⟨h3, ⟨h4, H⟩⟩⟩⟩
    refine rCat (by omega) ?_
    refine eqI64 (by omega) ?_
    refine Nxt.mk ((i + 1, ot ++ t2)) (mt_i rfl (by first | omega | (simp only; omega) | (simp; omega)) (mt_cons rfl (mt_nil))) ?_ ?_
    · refine ⟨?_, ?_⟩
      · omega
      refine ⟨?_, ?_⟩
      · (rw [hot, List.append_assoc, flat_snoc hx1]; simp [*])
      refine ⟨?_, ?_⟩
      · (simp only [List.length_append, List.length_set, List.length_cons, List.length_nil]; omega)
      refine H.drop 0 ?_
      clear H
      intro H
      exact H
    omega
  replace c2 := vLt_f (c2)
  refine Done.mk ?_
  refine ⟨ot, ?_⟩
  refine ⟨?_, ?_⟩
  · rfl
  refine ⟨?_, ?_⟩
  · (rw [hot, List.take_of_length_le (by omega)]; exact (if_neg hne).symm)
  refine ⟨?_, ?_⟩
  · omega
  exact H

theorem gl3 {c m1 o1 : UInt8} {mu : Bool} {st : Int} {l1 : List UInt8} (hbc : byt (c.toNat : Int) = c) (h1 : l1 = sleb st) (hm : m1 = mutB mu) (ho : o1 = opB (c.toNat : Int)) : [c, m1, o1] ++ l1 ++ [11] = gloT ((c.toNat : Int), mu, st) := by
  subst hm ho h1; unfold gloT; rw [hbc]
theorem op1 {k : Int} (h : k = 127) : UInt8.ofNat 65 = opB k := (if_pos h).symm
theorem op2 {k : Int} (h : k ≠ 127) : UInt8.ofNat 66 = opB k := (if_neg h).symm
theorem glo2 (H : Sat g w l) (x : Int × Bool × Int) (hx : okGl x) (he : gloE x = 0) : Fc Tryz.prog 23 #[.agg #[.int .u8 x.1, .bool x.2.1, .int .i64 x.2.2]] w (fun r w' => ∃ t, r = .string (bs t) ∧ t = gloT x ∧ t.length ≤ 14 ∧ Sat g w' l) := by
  obtain ⟨k, mu, st⟩ := x
  have hst := hx.start
  have hk8 := hx.kind
  have hk := kindE_0 (fst_eq0.1 he).1
  simp only at hst hk8 hk ⊢
  obtain ⟨c, rfl⟩ : ∃ c : UInt8, k = (c.toNat : Int) := ⟨UInt8.ofNat k.toNat, by rw [byte_toNat (by omega)]; omega⟩
  have hcl := c.toNat_lt
  have hbc : byt (c.toNat : Int) = c := by rw [byt_of (by omega)]; simp
  refine Fc.of Tryz.func23 rfl (by kernel_rfl) ?_
  refine rBoxS H ?_
  clear H
  intro p1 w1 H
  refine rFieldAt rfl ?_
  refine rLd (H.at 0 rfl) 1 rfl rfl rfl ?_
  refine cI (fun c1 => ?_) (fun c1 => ?_)
  · refine rFieldAt rfl ?_
    refine rLd (H.at 0 rfl) 0 rfl rfl rfl ?_
    refine cI (fun c2 => ?_) (fun c2 => ?_)
    · replace c2 := vEq_t (c2)
      refine drawtS H [] (.op 0 .pure (.op 1 .held (.op 2 .pure (.op 3 .pure (.op 6 .pure (.op 7 .held (.fork (.op 4 .forced (.fork (.op 5 .forced (.op 8 .forced (.op 9 .pure (.op 10 .pure (.op 11 .pure .nil))))) (.op 8 .forced (.op 5 .forced (.op 9 .pure (.op 10 .pure (.op 11 .pure .nil))))))) (.op 8 .forced (.op 4 .forced (.op 5 .forced (.op 9 .pure (.op 10 .pure (.op 11 .pure .nil))))))))))))) mixed (by kernel_rfl) ?_
      clear H
      intro w2 H
      clear w1
      refine tk (fun wx HS => rFieldAt rfl ⟨rfl, rfl⟩) ?_
      refine tk (fun wx HS => rLd (HS.at 0 rfl) 0 rfl rfl rfl ⟨rfl, rfl⟩) ?_
      refine tk (fun wx HS => rFieldAt rfl ⟨rfl, rfl⟩) ?_
      refine tk (fun wx HS => rLd (HS.at 0 rfl) 2 rfl rfl rfl ⟨rfl, rfl⟩) ?_
      refine ⟨?_, ?_⟩
      · refine rBuildSliceS H rfl rfl rfl rfl ?_
        clear H
        intro p2 w1 H
        clear w2
        refine KeepP.mk (H.drop 0 (fun H => H)) ?_
        refine ⟨?_, ?_⟩
        · have hbk1 := byteIs (x := 1) (n := 1) (by omega)
          rw [hbk1] at H
          clear hbk1
          have hbk1 := byteIs (x := 65) (n := 65) (by omega)
          rw [hbk1] at H
          clear hbk1
          refine H.ptSl (n := 3) (en := enY) (s := 1) 0 rfl [_, _, _] rfl rfl (fun _ => rfl) rfl ?_
          clear H
          intro H
          refine rBytesStrS H 0 rfl rfl rfl rfl ?_
          refine KeepP.mk (H.drop 0 (fun H => H)) ?_
          refine CallP.mk (Fc.imp (Go.Proofs.YtbbdfhgcmkljeaaGreatDoor.Leb.S _ ?_ _) ?_)
          · assumption
          rintro _ w2 ⟨l1, ⟨rfl, ⟨h1, ⟨h2, H'⟩⟩⟩⟩
          refine H.mergeK H' ?_
          clear H H'
          intro H
          refine KeepP.mk (H.drop 0 (fun H => H)) ?_
          refine tk (fun wx HS => rCat (by (simp only [List.length_append, List.length_set, List.length_cons, List.length_nil]; omega)) ⟨rfl, rfl⟩) ?_
          refine tk (fun wx HS => rCat (by (simp only [List.length_append, List.length_set, List.length_cons, List.length_nil]; omega)) ⟨rfl, rfl⟩) ?_
          refine Done.mk ?_
          refine ⟨[c, UInt8.ofNat 1, UInt8.ofNat 65] ++ l1 ++ [11], ?_⟩
          refine ⟨?_, ?_⟩
          · rfl
          refine ⟨?_, ?_⟩
          · exact gl3 hbc h1 (by rw [c1]; rfl) (op1 (by assumption))
          refine ⟨?_, ?_⟩
          · (simp only [List.length_append, List.length_set, List.length_cons, List.length_nil]; omega)
          refine H.drop 1 ?_
          clear H
          intro H
          refine H.drop 0 ?_
          clear H
          intro H
          exact H
        refine CallP.mk (Fc.imp (Go.Proofs.YtbbdfhgcmkljeaaGreatDoor.Leb.S _ ?_ _) ?_)
        · assumption
        rintro _ w2 ⟨l1, ⟨rfl, ⟨h1, ⟨h2, H'⟩⟩⟩⟩
        refine H.mergeK H' ?_
        clear H H'
        intro H
        refine KeepP.mk (H.drop 0 (fun H => H)) ?_
        have hbk1 := byteIs (x := 1) (n := 1) (by omega)
        rw [hbk1] at H
        clear hbk1
        have hbk1 := byteIs (x := 65) (n := 65) (by omega)
        rw [hbk1] at H
        clear hbk1
        refine H.ptSl (n := 3) (en := enY) (s := 1) 0 rfl [_, _, _] rfl rfl (fun _ => rfl) rfl ?_
        clear H
        intro H
        refine rBytesStrS H 0 rfl rfl rfl rfl ?_
        refine KeepP.mk (H.drop 0 (fun H => H)) ?_
        refine tk (fun wx HS => rCat (by (simp only [List.length_append, List.length_set, List.length_cons, List.length_nil]; omega)) ⟨rfl, rfl⟩) ?_
        refine tk (fun wx HS => rCat (by (simp only [List.length_append, List.length_set, List.length_cons, List.length_nil]; omega)) ⟨rfl, rfl⟩) ?_
        refine Done.mk ?_
        refine ⟨[c, UInt8.ofNat 1, UInt8.ofNat 65] ++ l1 ++ [11], ?_⟩
        refine ⟨?_, ?_⟩
        · rfl
        refine ⟨?_, ?_⟩
        · exact gl3 hbc h1 (by rw [c1]; rfl) (op1 (by assumption))
        refine ⟨?_, ?_⟩
        · (simp only [List.length_append, List.length_set, List.length_cons, List.length_nil]; omega)
        refine H.drop 1 ?_
        clear H
        intro H
        refine H.drop 0 ?_
        clear H
        intro H
        exact H
      refine CallP.mk (Fc.imp (Go.Proofs.YtbbdfhgcmkljeaaGreatDoor.Leb.S _ ?_ _) ?_)
      · assumption
      rintro _ w1 ⟨l1, ⟨rfl, ⟨h1, ⟨h2, H'⟩⟩⟩⟩
      refine H.mergeK H' ?_
      clear H H'
      intro H
      refine KeepP.mk (H) ?_
      refine rBuildSliceS H rfl rfl rfl rfl ?_
      clear H
      intro p2 w3 H
      clear w1
      refine KeepP.mk (H.drop 0 (fun H => H)) ?_
      have hbk1 := byteIs (x := 1) (n := 1) (by omega)
      rw [hbk1] at H
      clear hbk1
      have hbk1 := byteIs (x := 65) (n := 65) (by omega)
      rw [hbk1] at H
      clear hbk1
      refine H.ptSl (n := 3) (en := enY) (s := 1) 0 rfl [_, _, _] rfl rfl (fun _ => rfl) rfl ?_
      clear H
      intro H
      refine rBytesStrS H 0 rfl rfl rfl rfl ?_
      refine KeepP.mk (H.drop 0 (fun H => H)) ?_
      refine tk (fun wx HS => rCat (by (simp only [List.length_append, List.length_set, List.length_cons, List.length_nil]; omega)) ⟨rfl, rfl⟩) ?_
      refine tk (fun wx HS => rCat (by (simp only [List.length_append, List.length_set, List.length_cons, List.length_nil]; omega)) ⟨rfl, rfl⟩) ?_
      refine Done.mk ?_
      refine ⟨[c, UInt8.ofNat 1, UInt8.ofNat 65] ++ l1 ++ [11], ?_⟩
      refine ⟨?_, ?_⟩
      · rfl
      refine ⟨?_, ?_⟩
      · exact gl3 hbc h1 (by rw [c1]; rfl) (op1 (by assumption))
      refine ⟨?_, ?_⟩
      · (simp only [List.length_append, List.length_set, List.length_cons, List.length_nil]; omega)
      refine H.drop 1 ?_
      clear H
      intro H
      refine H.drop 0 ?_
      clear H
      intro H
      exact H
    replace c2 := vEq_f (c2)
    refine drawtS H [] (.op 0 .pure (.op 1 .held (.op 2 .pure (.op 3 .pure (.op 6 .pure (.op 7 .held (.fork (.op 4 .forced (.fork (.op 5 .forced (.op 8 .forced (.op 9 .pure (.op 10 .pure (.op 11 .pure .nil))))) (.op 8 .forced (.op 5 .forced (.op 9 .pure (.op 10 .pure (.op 11 .pure .nil))))))) (.op 8 .forced (.op 4 .forced (.op 5 .forced (.op 9 .pure (.op 10 .pure (.op 11 .pure .nil))))))))))))) mixed (by kernel_rfl) ?_
    clear H
    intro w2 H
    clear w1
    refine tk (fun wx HS => rFieldAt rfl ⟨rfl, rfl⟩) ?_
    refine tk (fun wx HS => rLd (HS.at 0 rfl) 0 rfl rfl rfl ⟨rfl, rfl⟩) ?_
    refine tk (fun wx HS => rFieldAt rfl ⟨rfl, rfl⟩) ?_
    refine tk (fun wx HS => rLd (HS.at 0 rfl) 2 rfl rfl rfl ⟨rfl, rfl⟩) ?_
    refine ⟨?_, ?_⟩
    · refine rBuildSliceS H rfl rfl rfl rfl ?_
      clear H
      intro p2 w1 H
      clear w2
      refine KeepP.mk (H.drop 0 (fun H => H)) ?_
      refine ⟨?_, ?_⟩
      · have hbk1 := byteIs (x := 1) (n := 1) (by omega)
        rw [hbk1] at H
        clear hbk1
        have hbk1 := byteIs (x := 66) (n := 66) (by omega)
        rw [hbk1] at H
        clear hbk1
        refine H.ptSl (n := 3) (en := enY) (s := 1) 0 rfl [_, _, _] rfl rfl (fun _ => rfl) rfl ?_
        clear H
        intro H
        refine rBytesStrS H 0 rfl rfl rfl rfl ?_
        refine KeepP.mk (H.drop 0 (fun H => H)) ?_
        refine CallP.mk (Fc.imp (Go.Proofs.YtbbdfhgcmkljeaaGreatDoor.Leb.S _ ?_ _) ?_)
        · assumption
        rintro _ w2 ⟨l1, ⟨rfl, ⟨h1, ⟨h2, H'⟩⟩⟩⟩
        refine H.mergeK H' ?_
        clear H H'
        intro H
        refine KeepP.mk (H.drop 0 (fun H => H)) ?_
        refine tk (fun wx HS => rCat (by (simp only [List.length_append, List.length_set, List.length_cons, List.length_nil]; omega)) ⟨rfl, rfl⟩) ?_
        refine tk (fun wx HS => rCat (by (simp only [List.length_append, List.length_set, List.length_cons, List.length_nil]; omega)) ⟨rfl, rfl⟩) ?_
        refine Done.mk ?_
        refine ⟨[c, UInt8.ofNat 1, UInt8.ofNat 66] ++ l1 ++ [11], ?_⟩
        refine ⟨?_, ?_⟩
        · rfl
        refine ⟨?_, ?_⟩
        · exact gl3 hbc h1 (by rw [c1]; rfl) (op2 (by assumption))
        refine ⟨?_, ?_⟩
        · (simp only [List.length_append, List.length_set, List.length_cons, List.length_nil]; omega)
        refine H.drop 1 ?_
        clear H
        intro H
        refine H.drop 0 ?_
        clear H
        intro H
        exact H
      refine CallP.mk (Fc.imp (Go.Proofs.YtbbdfhgcmkljeaaGreatDoor.Leb.S _ ?_ _) ?_)
      · assumption
      rintro _ w2 ⟨l1, ⟨rfl, ⟨h1, ⟨h2, H'⟩⟩⟩⟩
      refine H.mergeK H' ?_
      clear H H'
      intro H
      refine KeepP.mk (H.drop 0 (fun H => H)) ?_
      have hbk1 := byteIs (x := 1) (n := 1) (by omega)
      rw [hbk1] at H
      clear hbk1
      have hbk1 := byteIs (x := 66) (n := 66) (by omega)
      rw [hbk1] at H
      clear hbk1
      refine H.ptSl (n := 3) (en := enY) (s := 1) 0 rfl [_, _, _] rfl rfl (fun _ => rfl) rfl ?_
      clear H
      intro H
      refine rBytesStrS H 0 rfl rfl rfl rfl ?_
      refine KeepP.mk (H.drop 0 (fun H => H)) ?_
      refine tk (fun wx HS => rCat (by (simp only [List.length_append, List.length_set, List.length_cons, List.length_nil]; omega)) ⟨rfl, rfl⟩) ?_
      refine tk (fun wx HS => rCat (by (simp only [List.length_append, List.length_set, List.length_cons, List.length_nil]; omega)) ⟨rfl, rfl⟩) ?_
      refine Done.mk ?_
      refine ⟨[c, UInt8.ofNat 1, UInt8.ofNat 66] ++ l1 ++ [11], ?_⟩
      refine ⟨?_, ?_⟩
      · rfl
      refine ⟨?_, ?_⟩
      · exact gl3 hbc h1 (by rw [c1]; rfl) (op2 (by assumption))
      refine ⟨?_, ?_⟩
      · (simp only [List.length_append, List.length_set, List.length_cons, List.length_nil]; omega)
      refine H.drop 1 ?_
      clear H
      intro H
      refine H.drop 0 ?_
      clear H
      intro H
      exact H
    refine CallP.mk (Fc.imp (Go.Proofs.YtbbdfhgcmkljeaaGreatDoor.Leb.S _ ?_ _) ?_)
    · assumption
    rintro _ w1 ⟨l1, ⟨rfl, ⟨h1, ⟨h2, H'⟩⟩⟩⟩
    refine H.mergeK H' ?_
    clear H H'
    intro H
    refine KeepP.mk (H) ?_
    refine rBuildSliceS H rfl rfl rfl rfl ?_
    clear H
    intro p2 w3 H
    clear w1
    refine KeepP.mk (H.drop 0 (fun H => H)) ?_
    have hbk1 := byteIs (x := 1) (n := 1) (by omega)
    rw [hbk1] at H
    clear hbk1
    have hbk1 := byteIs (x := 66) (n := 66) (by omega)
    rw [hbk1] at H
    clear hbk1
    refine H.ptSl (n := 3) (en := enY) (s := 1) 0 rfl [_, _, _] rfl rfl (fun _ => rfl) rfl ?_
    clear H
    intro H
    refine rBytesStrS H 0 rfl rfl rfl rfl ?_
    refine KeepP.mk (H.drop 0 (fun H => H)) ?_
    refine tk (fun wx HS => rCat (by (simp only [List.length_append, List.length_set, List.length_cons, List.length_nil]; omega)) ⟨rfl, rfl⟩) ?_
    refine tk (fun wx HS => rCat (by (simp only [List.length_append, List.length_set, List.length_cons, List.length_nil]; omega)) ⟨rfl, rfl⟩) ?_
    refine Done.mk ?_
    refine ⟨[c, UInt8.ofNat 1, UInt8.ofNat 66] ++ l1 ++ [11], ?_⟩
    refine ⟨?_, ?_⟩
    · rfl
    refine ⟨?_, ?_⟩
    · exact gl3 hbc h1 (by rw [c1]; rfl) (op2 (by assumption))
    refine ⟨?_, ?_⟩
    · (simp only [List.length_append, List.length_set, List.length_cons, List.length_nil]; omega)
    refine H.drop 1 ?_
    clear H
    intro H
    refine H.drop 0 ?_
    clear H
    intro H
    exact H
  refine rFieldAt rfl ?_
  refine rLd (H.at 0 rfl) 0 rfl rfl rfl ?_
  refine cI (fun c2 => ?_) (fun c2 => ?_)
  · replace c2 := vEq_t (c2)
    refine drawtS H [] (.op 0 .pure (.op 1 .held (.op 2 .pure (.op 3 .pure (.op 6 .pure (.op 7 .held (.fork (.op 4 .forced (.fork (.op 5 .forced (.op 8 .forced (.op 9 .pure (.op 10 .pure (.op 11 .pure .nil))))) (.op 8 .forced (.op 5 .forced (.op 9 .pure (.op 10 .pure (.op 11 .pure .nil))))))) (.op 8 .forced (.op 4 .forced (.op 5 .forced (.op 9 .pure (.op 10 .pure (.op 11 .pure .nil))))))))))))) mixed (by kernel_rfl) ?_
    clear H
    intro w2 H
    clear w1
    refine tk (fun wx HS => rFieldAt rfl ⟨rfl, rfl⟩) ?_
    refine tk (fun wx HS => rLd (HS.at 0 rfl) 0 rfl rfl rfl ⟨rfl, rfl⟩) ?_
    refine tk (fun wx HS => rFieldAt rfl ⟨rfl, rfl⟩) ?_
    refine tk (fun wx HS => rLd (HS.at 0 rfl) 2 rfl rfl rfl ⟨rfl, rfl⟩) ?_
    refine ⟨?_, ?_⟩
    · refine rBuildSliceS H rfl rfl rfl rfl ?_
      clear H
      intro p2 w1 H
      clear w2
      refine KeepP.mk (H.drop 0 (fun H => H)) ?_
      refine ⟨?_, ?_⟩
      · have hbk1 := byteIs (x := 0) (n := 0) (by omega)
        rw [hbk1] at H
        clear hbk1
        have hbk1 := byteIs (x := 65) (n := 65) (by omega)
        rw [hbk1] at H
        clear hbk1
        refine H.ptSl (n := 3) (en := enY) (s := 1) 0 rfl [_, _, _] rfl rfl (fun _ => rfl) rfl ?_
        clear H
        intro H
        refine rBytesStrS H 0 rfl rfl rfl rfl ?_
        refine KeepP.mk (H.drop 0 (fun H => H)) ?_
        refine CallP.mk (Fc.imp (Go.Proofs.YtbbdfhgcmkljeaaGreatDoor.Leb.S _ ?_ _) ?_)
        · assumption
        rintro _ w2 ⟨l1, ⟨rfl, ⟨h1, ⟨h2, H'⟩⟩⟩⟩
        refine H.mergeK H' ?_
        clear H H'
        intro H
        refine KeepP.mk (H.drop 0 (fun H => H)) ?_
        refine tk (fun wx HS => rCat (by (simp only [List.length_append, List.length_set, List.length_cons, List.length_nil]; omega)) ⟨rfl, rfl⟩) ?_
        refine tk (fun wx HS => rCat (by (simp only [List.length_append, List.length_set, List.length_cons, List.length_nil]; omega)) ⟨rfl, rfl⟩) ?_
        refine Done.mk ?_
        refine ⟨[c, UInt8.ofNat 0, UInt8.ofNat 65] ++ l1 ++ [11], ?_⟩
        refine ⟨?_, ?_⟩
        · rfl
        refine ⟨?_, ?_⟩
        · exact gl3 hbc h1 (by rw [c1]; rfl) (op1 (by assumption))
        refine ⟨?_, ?_⟩
        · (simp only [List.length_append, List.length_set, List.length_cons, List.length_nil]; omega)
        refine H.drop 1 ?_
        clear H
        intro H
        refine H.drop 0 ?_
        clear H
        intro H
        exact H
      refine CallP.mk (Fc.imp (Go.Proofs.YtbbdfhgcmkljeaaGreatDoor.Leb.S _ ?_ _) ?_)
      · assumption
      rintro _ w2 ⟨l1, ⟨rfl, ⟨h1, ⟨h2, H'⟩⟩⟩⟩
      refine H.mergeK H' ?_
      clear H H'
      intro H
      refine KeepP.mk (H.drop 0 (fun H => H)) ?_
      have hbk1 := byteIs (x := 0) (n := 0) (by omega)
      rw [hbk1] at H
      clear hbk1
      have hbk1 := byteIs (x := 65) (n := 65) (by omega)
      rw [hbk1] at H
      clear hbk1
      refine H.ptSl (n := 3) (en := enY) (s := 1) 0 rfl [_, _, _] rfl rfl (fun _ => rfl) rfl ?_
      clear H
      intro H
      refine rBytesStrS H 0 rfl rfl rfl rfl ?_
      refine KeepP.mk (H.drop 0 (fun H => H)) ?_
      refine tk (fun wx HS => rCat (by (simp only [List.length_append, List.length_set, List.length_cons, List.length_nil]; omega)) ⟨rfl, rfl⟩) ?_
      refine tk (fun wx HS => rCat (by (simp only [List.length_append, List.length_set, List.length_cons, List.length_nil]; omega)) ⟨rfl, rfl⟩) ?_
      refine Done.mk ?_
      refine ⟨[c, UInt8.ofNat 0, UInt8.ofNat 65] ++ l1 ++ [11], ?_⟩
      refine ⟨?_, ?_⟩
      · rfl
      refine ⟨?_, ?_⟩
      · exact gl3 hbc h1 (by rw [c1]; rfl) (op1 (by assumption))
      refine ⟨?_, ?_⟩
      · (simp only [List.length_append, List.length_set, List.length_cons, List.length_nil]; omega)
      refine H.drop 1 ?_
      clear H
      intro H
      refine H.drop 0 ?_
      clear H
      intro H
      exact H
    refine CallP.mk (Fc.imp (Go.Proofs.YtbbdfhgcmkljeaaGreatDoor.Leb.S _ ?_ _) ?_)
    · assumption
    rintro _ w1 ⟨l1, ⟨rfl, ⟨h1, ⟨h2, H'⟩⟩⟩⟩
    refine H.mergeK H' ?_
    clear H H'
    intro H
    refine KeepP.mk (H) ?_
    refine rBuildSliceS H rfl rfl rfl rfl ?_
    clear H
    intro p2 w3 H
    clear w1
    refine KeepP.mk (H.drop 0 (fun H => H)) ?_
    have hbk1 := byteIs (x := 0) (n := 0) (by omega)
    rw [hbk1] at H
    clear hbk1
    have hbk1 := byteIs (x := 65) (n := 65) (by omega)
    rw [hbk1] at H
    clear hbk1
    refine H.ptSl (n := 3) (en := enY) (s := 1) 0 rfl [_, _, _] rfl rfl (fun _ => rfl) rfl ?_
    clear H
    intro H
    refine rBytesStrS H 0 rfl rfl rfl rfl ?_
    refine KeepP.mk (H.drop 0 (fun H => H)) ?_
    refine tk (fun wx HS => rCat (by (simp only [List.length_append, List.length_set, List.length_cons, List.length_nil]; omega)) ⟨rfl, rfl⟩) ?_
    refine tk (fun wx HS => rCat (by (simp only [List.length_append, List.length_set, List.length_cons, List.length_nil]; omega)) ⟨rfl, rfl⟩) ?_
    refine Done.mk ?_
    refine ⟨[c, UInt8.ofNat 0, UInt8.ofNat 65] ++ l1 ++ [11], ?_⟩
    refine ⟨?_, ?_⟩
    · rfl
    refine ⟨?_, ?_⟩
    · exact gl3 hbc h1 (by rw [c1]; rfl) (op1 (by assumption))
    refine ⟨?_, ?_⟩
    · (simp only [List.length_append, List.length_set, List.length_cons, List.length_nil]; omega)
    refine H.drop 1 ?_
    clear H
    intro H
    refine H.drop 0 ?_
    clear H
    intro H
    exact H
  replace c2 := vEq_f (c2)
  refine drawtS H [] (.op 0 .pure (.op 1 .held (.op 2 .pure (.op 3 .pure (.op 6 .pure (.op 7 .held (.fork (.op 4 .forced (.fork (.op 5 .forced (.op 8 .forced (.op 9 .pure (.op 10 .pure (.op 11 .pure .nil))))) (.op 8 .forced (.op 5 .forced (.op 9 .pure (.op 10 .pure (.op 11 .pure .nil))))))) (.op 8 .forced (.op 4 .forced (.op 5 .forced (.op 9 .pure (.op 10 .pure (.op 11 .pure .nil))))))))))))) mixed (by kernel_rfl) ?_
  clear H
  intro w2 H
  clear w1
  refine tk (fun wx HS => rFieldAt rfl ⟨rfl, rfl⟩) ?_
  refine tk (fun wx HS => rLd (HS.at 0 rfl) 0 rfl rfl rfl ⟨rfl, rfl⟩) ?_
  refine tk (fun wx HS => rFieldAt rfl ⟨rfl, rfl⟩) ?_
  refine tk (fun wx HS => rLd (HS.at 0 rfl) 2 rfl rfl rfl ⟨rfl, rfl⟩) ?_
  refine ⟨?_, ?_⟩
  · refine rBuildSliceS H rfl rfl rfl rfl ?_
    clear H
    intro p2 w1 H
    clear w2
    refine KeepP.mk (H.drop 0 (fun H => H)) ?_
    refine ⟨?_, ?_⟩
    · have hbk1 := byteIs (x := 0) (n := 0) (by omega)
      rw [hbk1] at H
      clear hbk1
      have hbk1 := byteIs (x := 66) (n := 66) (by omega)
      rw [hbk1] at H
      clear hbk1
      refine H.ptSl (n := 3) (en := enY) (s := 1) 0 rfl [_, _, _] rfl rfl (fun _ => rfl) rfl ?_
      clear H
      intro H
      refine rBytesStrS H 0 rfl rfl rfl rfl ?_
      refine KeepP.mk (H.drop 0 (fun H => H)) ?_
      refine CallP.mk (Fc.imp (Go.Proofs.YtbbdfhgcmkljeaaGreatDoor.Leb.S _ ?_ _) ?_)
      · assumption
      rintro _ w2 ⟨l1, ⟨rfl, ⟨h1, ⟨h2, H'⟩⟩⟩⟩
      refine H.mergeK H' ?_
      clear H H'
      intro H
      refine KeepP.mk (H.drop 0 (fun H => H)) ?_
      refine tk (fun wx HS => rCat (by (simp only [List.length_append, List.length_set, List.length_cons, List.length_nil]; omega)) ⟨rfl, rfl⟩) ?_
      refine tk (fun wx HS => rCat (by (simp only [List.length_append, List.length_set, List.length_cons, List.length_nil]; omega)) ⟨rfl, rfl⟩) ?_
      refine Done.mk ?_
      refine ⟨[c, UInt8.ofNat 0, UInt8.ofNat 66] ++ l1 ++ [11], ?_⟩
      refine ⟨?_, ?_⟩
      · rfl
      refine ⟨?_, ?_⟩
      · exact gl3 hbc h1 (by rw [c1]; rfl) (op2 (by assumption))
      refine ⟨?_, ?_⟩
      · (simp only [List.length_append, List.length_set, List.length_cons, List.length_nil]; omega)
      refine H.drop 1 ?_
      clear H
      intro H
      refine H.drop 0 ?_
      clear H
      intro H
      exact H
    refine CallP.mk (Fc.imp (Go.Proofs.YtbbdfhgcmkljeaaGreatDoor.Leb.S _ ?_ _) ?_)
    · assumption
    rintro _ w2 ⟨l1, ⟨rfl, ⟨h1, ⟨h2, H'⟩⟩⟩⟩
    refine H.mergeK H' ?_
    clear H H'
    intro H
    refine KeepP.mk (H.drop 0 (fun H => H)) ?_
    have hbk1 := byteIs (x := 0) (n := 0) (by omega)
    rw [hbk1] at H
    clear hbk1
    have hbk1 := byteIs (x := 66) (n := 66) (by omega)
    rw [hbk1] at H
    clear hbk1
    refine H.ptSl (n := 3) (en := enY) (s := 1) 0 rfl [_, _, _] rfl rfl (fun _ => rfl) rfl ?_
    clear H
    intro H
    refine rBytesStrS H 0 rfl rfl rfl rfl ?_
    refine KeepP.mk (H.drop 0 (fun H => H)) ?_
    refine tk (fun wx HS => rCat (by (simp only [List.length_append, List.length_set, List.length_cons, List.length_nil]; omega)) ⟨rfl, rfl⟩) ?_
    refine tk (fun wx HS => rCat (by (simp only [List.length_append, List.length_set, List.length_cons, List.length_nil]; omega)) ⟨rfl, rfl⟩) ?_
    refine Done.mk ?_
    refine ⟨[c, UInt8.ofNat 0, UInt8.ofNat 66] ++ l1 ++ [11], ?_⟩
    refine ⟨?_, ?_⟩
    · rfl
    refine ⟨?_, ?_⟩
    · exact gl3 hbc h1 (by rw [c1]; rfl) (op2 (by assumption))
    refine ⟨?_, ?_⟩
    · (simp only [List.length_append, List.length_set, List.length_cons, List.length_nil]; omega)
    refine H.drop 1 ?_
    clear H
    intro H
    refine H.drop 0 ?_
    clear H
    intro H
    exact H
  refine CallP.mk (Fc.imp (Go.Proofs.YtbbdfhgcmkljeaaGreatDoor.Leb.S _ ?_ _) ?_)
  · assumption
  rintro _ w1 ⟨l1, ⟨rfl, ⟨h1, ⟨h2, H'⟩⟩⟩⟩
  refine H.mergeK H' ?_
  clear H H'
  intro H
  refine KeepP.mk (H) ?_
  refine rBuildSliceS H rfl rfl rfl rfl ?_
  clear H
  intro p2 w3 H
  clear w1
  refine KeepP.mk (H.drop 0 (fun H => H)) ?_
  have hbk1 := byteIs (x := 0) (n := 0) (by omega)
  rw [hbk1] at H
  clear hbk1
  have hbk1 := byteIs (x := 66) (n := 66) (by omega)
  rw [hbk1] at H
  clear hbk1
  refine H.ptSl (n := 3) (en := enY) (s := 1) 0 rfl [_, _, _] rfl rfl (fun _ => rfl) rfl ?_
  clear H
  intro H
  refine rBytesStrS H 0 rfl rfl rfl rfl ?_
  refine KeepP.mk (H.drop 0 (fun H => H)) ?_
  refine tk (fun wx HS => rCat (by (simp only [List.length_append, List.length_set, List.length_cons, List.length_nil]; omega)) ⟨rfl, rfl⟩) ?_
  refine tk (fun wx HS => rCat (by (simp only [List.length_append, List.length_set, List.length_cons, List.length_nil]; omega)) ⟨rfl, rfl⟩) ?_
  refine Done.mk ?_
  refine ⟨[c, UInt8.ofNat 0, UInt8.ofNat 66] ++ l1 ++ [11], ?_⟩
  refine ⟨?_, ?_⟩
  · rfl
  refine ⟨?_, ?_⟩
  · exact gl3 hbc h1 (by rw [c1]; rfl) (op2 (by assumption))
  refine ⟨?_, ?_⟩
  · (simp only [List.length_append, List.length_set, List.length_cons, List.length_nil]; omega)
  refine H.drop 1 ?_
  clear H
  intro H
  refine H.drop 0 ?_
  clear H
  intro H
  exact H

theorem listGl (H : Sat g w l) (v : Value) (xs : List (Int × Bool × Int)) (hx : FSl g enGl okGl 3 v xs) (hl : xs.length ≤ 16) (he : ∀ x ∈ xs, gloE x = 0) : Fc Tryz.prog 22 #[v, .func (.func 23) #[] #[]] w (fun r w' => ∃ t, r = .string (bs t) ∧ t = listT (fun x : (Int × Bool × Int) => gloT x) xs ∧ t.length ≤ 234 ∧ Sat g w' l) := by
  refine Fc.of Tryz.func22 rfl (by kernel_rfl) ?_
  refine rLenF hx rfl ?_
  refine cI (fun c1 => ?_) (fun c1 => ?_)
  · replace c1 := vEq_t (c1)
    refine Done.mk ?_
    refine ⟨[], ?_⟩
    refine ⟨?_, ?_⟩
    · rfl
    refine ⟨?_, ?_⟩
    · exact (if_pos (List.eq_nil_of_length_eq_zero (by omega))).symm
    refine ⟨?_, ?_⟩
    · (simp only [List.length_append, List.length_set, List.length_cons, List.length_nil]; omega)
    exact H
  replace c1 := vEq_f (c1)
  refine rLenF hx rfl ?_
  refine CallP.mk (Fc.imp (Go.Proofs.YtbbdfhgcmkljeaaGreatDoor.Bin.number _ ?_ _) ?_)
  · omega
  rintro _ w1 ⟨⟨t1, ⟨rfl, ⟨h1, h2⟩⟩⟩, H'⟩
  refine H.mergeK H' ?_
  clear H H'
  intro H
  refine rLenF hx rfl ?_
  have hne : xs ≠ [] := fun h => c1 (by rw [h]; rfl)
  refine LoopP.rule (α := Nat × List UInt8) (0, t1) (fun x_ => [(16, .int .i64 x_.1), (5, .string (bs x_.2))]) (fun x_ w_ => (x_.1 ≤ xs.length) ∧ (x_.2 = uleb xs.length ++ (xs.take x_.1).flatMap (fun x : (Int × Bool × Int) => gloT x)) ∧ (x_.2.length ≤ 10 + 14 * x_.1) ∧ Sat g w_ (l)) (fun x_ => xs.length - x_.1) ?_ ?_ ?_
  · repeat first | exact mt_nil | refine mt_cons rfl ?_ | refine mt_i rfl (by first | omega | (simp only; omega) | (simp; omega) | (simp; done)) ?_
  · try simp only
    refine ⟨?_, ?_⟩
    · omega
    refine ⟨?_, ?_⟩
    · (rw [h1]; simp [numT])
    refine ⟨?_, ?_⟩
    · (rw [h1]; simp [numT])
      (rw [h1] at h2; exact h2)
    exact H
  clear H
  rintro ⟨i, ot⟩ f_ w_ ⟨hi, hot, hln, H⟩
  try simp only at hi hot hln H ⊢
  refine cI (fun c2 => ?_) (fun c2 => ?_)
  · replace c2 := vLt_t (c2)
    refine bk ?_
    obtain ⟨x1, hx1⟩ : ∃ x, (xs)[(i)]? = some x := ⟨_, List.getElem?_eq_getElem (by omega)⟩
    obtain ⟨b1, o1, E1, F1, hok1⟩ := FSl.elt hx hx1
    have hok1_kind := hok1.kind
    have hok1_start := hok1.start
    refine rIxE E1 rfl rfl rfl ?_
    refine rLdA (H.fat F1) 0 rfl rfl rfl ?_
    refine rAllocS H rfl ?_
    clear H
    intro p1 w2 H
    clear w_
    refine rStAS H 0 rfl rfl rfl rfl ?_
    clear H
    intro w3 H
    clear w2
    refine rLdA (H.at 0 rfl) 0 rfl rfl rfl ?_
    refine CallP.mk (Fc.imp (Go.Proofs.YtbbdfhgcmkljeaaGreatDoor.Bin.glo2 H _ ?_ ?_) ?_)
    · assumption
    · exact he _ (List.mem_of_getElem? hx1)
    clear H
    rintro _ w2 ⟨t2, ⟨rfl, ⟨h3, ⟨h4, H⟩⟩⟩⟩
    refine rCat (by omega) ?_
    refine eqI64 (by omega) ?_
    refine Nxt.mk ((i + 1, ot ++ t2)) (mt_i rfl (by first | omega | (simp only; omega) | (simp; omega)) (mt_cons rfl (mt_nil))) ?_ ?_
    · refine ⟨?_, ?_⟩
      · omega
      refine ⟨?_, ?_⟩
      · (rw [hot, List.append_assoc, flat_snoc hx1]; simp [*])
      refine ⟨?_, ?_⟩
      · (simp only [List.length_append, List.length_set, List.length_cons, List.length_nil]; omega)
      refine H.drop 0 ?_
      clear H
      intro H
      exact H
    omega
  replace c2 := vLt_f (c2)
  refine Done.mk ?_
  refine ⟨ot, ?_⟩
  refine ⟨?_, ?_⟩
  · rfl
  refine ⟨?_, ?_⟩
  · (rw [hot, List.take_of_length_le (by omega)]; exact (if_neg hne).symm)
  refine ⟨?_, ?_⟩
  · omega
  exact H

theorem exp2 (H : Sat g w l) (hT : U8F g) (x : List UInt8 × Int) (hx : okIm x) (he : impE x = 0) : Fc Tryz.prog 25 #[.agg #[.string (bs x.1), .int .i64 x.2]] w (fun r w' => ∃ t, r = .string (bs t) ∧ t = expT x ∧ t.length ≤ 41 ∧ Sat g w' l) := by
  refine Fc.of Tryz.func25 rfl (by kernel_rfl) ?_
  have hx_name := hx.name
  have hx_ty := hx.ty
  obtain ⟨he1, he2⟩ := fst_eq0.1 he
  have hi2 := indexE_0 he2
  refine rBoxS H ?_
  clear H
  intro p1 w1 H
  refine drawzS H [] [(0, .pure), (1, .held), (4, .pure), (5, .held), (2, .forced), (3, .pure), (6, .free), (7, .pure), (8, .pure)] mixed (by kernel_rfl) (by kernel_rfl) ?_
  clear H
  intro w2 H
  clear w1
  refine tk (fun wx HS => rFieldAt rfl ⟨rfl, rfl⟩) ?_
  refine tk (fun wx HS => rLd (HS.at 0 rfl) 0 rfl rfl rfl ⟨rfl, rfl⟩) ?_
  refine tk (fun wx HS => rFieldAt rfl ⟨rfl, rfl⟩) ?_
  refine tk (fun wx HS => rLd (HS.at 0 rfl) 1 rfl rfl rfl ⟨rfl, rfl⟩) ?_
  refine CallP.mk (Fc.imp (Go.Proofs.YtbbdfhgcmkljeaaGreatDoor.Bin.name1 H ?_ _ ?_) ?_)
  · assumption
  · assumption
  clear H
  rintro _ w1 ⟨t1, ⟨rfl, ⟨h1, ⟨h2, H⟩⟩⟩⟩
  refine KeepP.mk (H) ?_
  refine tk (fun wx HS => rCat (by (simp only [List.length_append, List.length_set, List.length_cons, List.length_nil]; omega)) ⟨rfl, rfl⟩) ?_
  refine CallP.mk (Fc.imp (Go.Proofs.YtbbdfhgcmkljeaaGreatDoor.Bin.number _ ?_ _) ?_)
  · omega
  rintro _ w3 ⟨⟨t2, ⟨rfl, ⟨h3, h4⟩⟩⟩, H'⟩
  refine H.mergeK H' ?_
  clear H H'
  intro H
  refine tk (fun wx HS => rCat (by (simp only [List.length_append, List.length_set, List.length_cons, List.length_nil]; omega)) ⟨rfl, rfl⟩) ?_
  refine Done.mk ?_
  refine ⟨t1 ++ [0] ++ t2, ?_⟩
  refine ⟨?_, ?_⟩
  · rfl
  refine ⟨?_, ?_⟩
  · (rw [h1, h3]; simp [expT])
  refine ⟨?_, ?_⟩
  · (rw [h1, h3]; simp [expT])
    (rw [h1] at h2; rw [h3] at h4; omega)
  refine H.drop 0 ?_
  clear H
  intro H
  exact H

theorem listEx (H : Sat g w l) (hT : U8F g) (v : Value) (xs : List (List UInt8 × Int)) (hx : FSl g enIm okIm 2 v xs) (hl : xs.length ≤ 16) (he : ∀ x ∈ xs, impE x = 0) : Fc Tryz.prog 24 #[v, .func (.func 25) #[] #[]] w (fun r w' => ∃ t, r = .string (bs t) ∧ t = listT (fun x : (List UInt8 × Int) => expT x) xs ∧ t.length ≤ 666 ∧ Sat g w' l) := by
  refine Fc.of Tryz.func24 rfl (by kernel_rfl) ?_
  refine rLenF hx rfl ?_
  refine cI (fun c1 => ?_) (fun c1 => ?_)
  · replace c1 := vEq_t (c1)
    refine Done.mk ?_
    refine ⟨[], ?_⟩
    refine ⟨?_, ?_⟩
    · rfl
    refine ⟨?_, ?_⟩
    · exact (if_pos (List.eq_nil_of_length_eq_zero (by omega))).symm
    refine ⟨?_, ?_⟩
    · (simp only [List.length_append, List.length_set, List.length_cons, List.length_nil]; omega)
    exact H
  replace c1 := vEq_f (c1)
  refine rLenF hx rfl ?_
  refine CallP.mk (Fc.imp (Go.Proofs.YtbbdfhgcmkljeaaGreatDoor.Bin.number _ ?_ _) ?_)
  · omega
  rintro _ w1 ⟨⟨t1, ⟨rfl, ⟨h1, h2⟩⟩⟩, H'⟩
  refine H.mergeK H' ?_
  clear H H'
  intro H
  refine rLenF hx rfl ?_
  have hne : xs ≠ [] := fun h => c1 (by rw [h]; rfl)
  refine LoopP.rule (α := Nat × List UInt8) (0, t1) (fun x_ => [(16, .int .i64 x_.1), (5, .string (bs x_.2))]) (fun x_ w_ => (x_.1 ≤ xs.length) ∧ (x_.2 = uleb xs.length ++ (xs.take x_.1).flatMap (fun x : (List UInt8 × Int) => expT x)) ∧ (x_.2.length ≤ 10 + 41 * x_.1) ∧ Sat g w_ (l)) (fun x_ => xs.length - x_.1) ?_ ?_ ?_
  · repeat first | exact mt_nil | refine mt_cons rfl ?_ | refine mt_i rfl (by first | omega | (simp only; omega) | (simp; omega) | (simp; done)) ?_
  · try simp only
    refine ⟨?_, ?_⟩
    · omega
    refine ⟨?_, ?_⟩
    · (rw [h1]; simp [numT])
    refine ⟨?_, ?_⟩
    · (rw [h1]; simp [numT])
      (rw [h1] at h2; exact h2)
    exact H
  clear H
  rintro ⟨i, ot⟩ f_ w_ ⟨hi, hot, hln, H⟩
  try simp only at hi hot hln H ⊢
  refine cI (fun c2 => ?_) (fun c2 => ?_)
  · replace c2 := vLt_t (c2)
    refine bk ?_
    obtain ⟨x1, hx1⟩ : ∃ x, (xs)[(i)]? = some x := ⟨_, List.getElem?_eq_getElem (by omega)⟩
    obtain ⟨b1, o1, E1, F1, hok1⟩ := FSl.elt hx hx1
    have hok1_name := hok1.name
    have hok1_ty := hok1.ty
    refine rIxE E1 rfl rfl rfl ?_
    refine rLdA (H.fat F1) 0 rfl rfl rfl ?_
    refine rAllocS H rfl ?_
    clear H
    intro p1 w2 H
    clear w_
    refine rStAS H 0 rfl rfl rfl rfl ?_
    clear H
    intro w3 H
    clear w2
    refine rLdA (H.at 0 rfl) 0 rfl rfl rfl ?_
    refine CallP.mk (Fc.imp (Go.Proofs.YtbbdfhgcmkljeaaGreatDoor.Bin.exp2 H ?_ _ ?_ ?_) ?_)
    · assumption
    · assumption
    · exact he _ (List.mem_of_getElem? hx1)
    clear H
    rintro _ w2 ⟨t2, ⟨rfl, ⟨h3, ⟨h4, H⟩⟩⟩⟩
    refine rCat (by omega) ?_
    refine eqI64 (by omega) ?_
    refine Nxt.mk ((i + 1, ot ++ t2)) (mt_i rfl (by first | omega | (simp only; omega) | (simp; omega)) (mt_cons rfl (mt_nil))) ?_ ?_
    · refine ⟨?_, ?_⟩
      · omega
      refine ⟨?_, ?_⟩
      · (rw [hot, List.append_assoc, flat_snoc hx1]; simp [*])
      refine ⟨?_, ?_⟩
      · (simp only [List.length_append, List.length_set, List.length_cons, List.length_nil]; omega)
      refine H.drop 0 ?_
      clear H
      intro H
      exact H
    omega
  replace c2 := vLt_f (c2)
  refine Done.mk ?_
  refine ⟨ot, ?_⟩
  refine ⟨?_, ?_⟩
  · rfl
  refine ⟨?_, ?_⟩
  · (rw [hot, List.take_of_length_le (by omega)]; exact (if_neg hne).symm)
  refine ⟨?_, ?_⟩
  · omega
  exact H

theorem dat2 (H : Sat g w l) (x : Int × List UInt8) (hx : okDt x) (he : datE x = 0) : Fc Tryz.prog 31 #[.agg #[.int .i64 x.1, .string (bs x.2)]] w (fun r w' => ∃ t, r = .string (bs t) ∧ t = datT x ∧ t.length ≤ 87 ∧ Sat g w' l) := by
  refine Fc.of Tryz.func31 rfl (by kernel_rfl) ?_
  have hx_pl := hx.pl
  have hx_bytes := hx.bytes
  obtain ⟨he1, he2⟩ := fst_eq0.1 he
  have hi2 := manyE_0 he2
  refine rBoxS H ?_
  clear H
  intro p1 w1 H
  refine drawzS H [] [(0, .pure), (1, .held), (5, .pure), (6, .held), (7, .pure), (10, .pure), (11, .held), (2, .forced), (3, .pure), (4, .pure), (8, .forced), (9, .pure), (12, .pure), (13, .pure)] mixed (by kernel_rfl) (by kernel_rfl) ?_
  clear H
  intro w2 H
  clear w1
  refine tk (fun wx HS => rFieldAt rfl ⟨rfl, rfl⟩) ?_
  refine tk (fun wx HS => rLd (HS.at 0 rfl) 0 rfl rfl rfl ⟨rfl, rfl⟩) ?_
  refine tk (fun wx HS => rFieldAt rfl ⟨rfl, rfl⟩) ?_
  refine tk (fun wx HS => rLd (HS.at 0 rfl) 1 rfl rfl rfl ⟨rfl, rfl⟩) ?_
  refine tk (fun wx HS => rLenStr rfl ⟨rfl, rfl⟩) ?_
  refine tk (fun wx HS => rFieldAt rfl ⟨rfl, rfl⟩) ?_
  refine tk (fun wx HS => rLd (HS.at 0 rfl) 1 rfl rfl rfl ⟨rfl, rfl⟩) ?_
  refine CallP.mk (Fc.imp (Go.Proofs.YtbbdfhgcmkljeaaGreatDoor.Leb.S _ ?_ _) ?_)
  · assumption
  rintro _ w1 ⟨l1, ⟨rfl, ⟨h1, ⟨h2, H'⟩⟩⟩⟩
  refine H.mergeK H' ?_
  clear H H'
  intro H
  refine KeepP.mk (H) ?_
  refine tk (fun wx HS => rCat (by (simp only [List.length_append, List.length_set, List.length_cons, List.length_nil]; omega)) ⟨rfl, rfl⟩) ?_
  refine tk (fun wx HS => rCat (by (simp only [List.length_append, List.length_set, List.length_cons, List.length_nil]; omega)) ⟨rfl, rfl⟩) ?_
  refine CallP.mk (Fc.imp (Go.Proofs.YtbbdfhgcmkljeaaGreatDoor.Bin.number _ ?_ _) ?_)
  · omega
  rintro _ w3 ⟨⟨t1, ⟨rfl, ⟨h3, h4⟩⟩⟩, H'⟩
  refine H.mergeK H' ?_
  clear H H'
  intro H
  refine KeepP.mk (H) ?_
  refine tk (fun wx HS => rCat (by (simp only [List.length_append, List.length_set, List.length_cons, List.length_nil]; omega)) ⟨rfl, rfl⟩) ?_
  refine tk (fun wx HS => rCat (by (simp only [List.length_append, List.length_set, List.length_cons, List.length_nil]; omega)) ⟨rfl, rfl⟩) ?_
  refine Done.mk ?_
  refine ⟨[0, 65] ++ l1 ++ [11] ++ t1 ++ x.snd, ?_⟩
  refine ⟨?_, ?_⟩
  · rfl
  refine ⟨?_, ?_⟩
  · (rw [h1, h3]; simp [datT, numT])
  refine ⟨?_, ?_⟩
  · (rw [h1, h3]; simp [datT, numT])
    (rw [h1] at h2; rw [h3] at h4; have h5 : (uleb x.2.length).length ≤ 10 := h4; omega)
  refine H.drop 0 ?_
  clear H
  intro H
  exact H

theorem listDt (H : Sat g w l) (v : Value) (xs : List (Int × List UInt8)) (hx : FSl g enDt okDt 2 v xs) (hl : xs.length ≤ 16) (he : ∀ x ∈ xs, datE x = 0) : Fc Tryz.prog 30 #[v, .func (.func 31) #[] #[]] w (fun r w' => ∃ t, r = .string (bs t) ∧ t = listT (fun x : (Int × List UInt8) => datT x) xs ∧ t.length ≤ 1402 ∧ Sat g w' l) := by
  refine Fc.of Tryz.func30 rfl (by kernel_rfl) ?_
  refine rLenF hx rfl ?_
  refine cI (fun c1 => ?_) (fun c1 => ?_)
  · replace c1 := vEq_t (c1)
    refine Done.mk ?_
    refine ⟨[], ?_⟩
    refine ⟨?_, ?_⟩
    · rfl
    refine ⟨?_, ?_⟩
    · exact (if_pos (List.eq_nil_of_length_eq_zero (by omega))).symm
    refine ⟨?_, ?_⟩
    · (simp only [List.length_append, List.length_set, List.length_cons, List.length_nil]; omega)
    exact H
  replace c1 := vEq_f (c1)
  refine rLenF hx rfl ?_
  refine CallP.mk (Fc.imp (Go.Proofs.YtbbdfhgcmkljeaaGreatDoor.Bin.number _ ?_ _) ?_)
  · omega
  rintro _ w1 ⟨⟨t1, ⟨rfl, ⟨h1, h2⟩⟩⟩, H'⟩
  refine H.mergeK H' ?_
  clear H H'
  intro H
  refine rLenF hx rfl ?_
  have hne : xs ≠ [] := fun h => c1 (by rw [h]; rfl)
  refine LoopP.rule (α := Nat × List UInt8) (0, t1) (fun x_ => [(16, .int .i64 x_.1), (5, .string (bs x_.2))]) (fun x_ w_ => (x_.1 ≤ xs.length) ∧ (x_.2 = uleb xs.length ++ (xs.take x_.1).flatMap (fun x : (Int × List UInt8) => datT x)) ∧ (x_.2.length ≤ 10 + 87 * x_.1) ∧ Sat g w_ (l)) (fun x_ => xs.length - x_.1) ?_ ?_ ?_
  · repeat first | exact mt_nil | refine mt_cons rfl ?_ | refine mt_i rfl (by first | omega | (simp only; omega) | (simp; omega) | (simp; done)) ?_
  · try simp only
    refine ⟨?_, ?_⟩
    · omega
    refine ⟨?_, ?_⟩
    · (rw [h1]; simp [numT])
    refine ⟨?_, ?_⟩
    · (rw [h1]; simp [numT])
      (rw [h1] at h2; exact h2)
    exact H
  clear H
  rintro ⟨i, ot⟩ f_ w_ ⟨hi, hot, hln, H⟩
  try simp only at hi hot hln H ⊢
  refine cI (fun c2 => ?_) (fun c2 => ?_)
  · replace c2 := vLt_t (c2)
    refine bk ?_
    obtain ⟨x1, hx1⟩ : ∃ x, (xs)[(i)]? = some x := ⟨_, List.getElem?_eq_getElem (by omega)⟩
    obtain ⟨b1, o1, E1, F1, hok1⟩ := FSl.elt hx hx1
    have hok1_pl := hok1.pl
    have hok1_bytes := hok1.bytes
    refine rIxE E1 rfl rfl rfl ?_
    refine rLdA (H.fat F1) 0 rfl rfl rfl ?_
    refine rAllocS H rfl ?_
    clear H
    intro p1 w2 H
    clear w_
    refine rStAS H 0 rfl rfl rfl rfl ?_
    clear H
    intro w3 H
    clear w2
    refine rLdA (H.at 0 rfl) 0 rfl rfl rfl ?_
    refine CallP.mk (Fc.imp (Go.Proofs.YtbbdfhgcmkljeaaGreatDoor.Bin.dat2 H _ ?_ ?_) ?_)
    · assumption
    · exact he _ (List.mem_of_getElem? hx1)
    clear H
    rintro _ w2 ⟨t2, ⟨rfl, ⟨h3, ⟨h4, H⟩⟩⟩⟩
    refine rCat (by omega) ?_
    refine eqI64 (by omega) ?_
    refine Nxt.mk ((i + 1, ot ++ t2)) (mt_i rfl (by first | omega | (simp only; omega) | (simp; omega)) (mt_cons rfl (mt_nil))) ?_ ?_
    · refine ⟨?_, ?_⟩
      · omega
      refine ⟨?_, ?_⟩
      · (rw [hot, List.append_assoc, flat_snoc hx1]; simp [*])
      refine ⟨?_, ?_⟩
      · (simp only [List.length_append, List.length_set, List.length_cons, List.length_nil]; omega)
      refine H.drop 0 ?_
      clear H
      intro H
      exact H
    omega
  replace c2 := vLt_f (c2)
  refine Done.mk ?_
  refine ⟨ot, ?_⟩
  refine ⟨?_, ?_⟩
  · rfl
  refine ⟨?_, ?_⟩
  · (rw [hot, List.take_of_length_le (by omega)]; exact (if_neg hne).symm)
  refine ⟨?_, ?_⟩
  · omega
  exact H

end
end Go.Proofs.YtbbdfhgcmkljeaaGreatDoor.Bin
/- Package bin: elements, code and sections as bytes. -/
set_option maxRecDepth 100000
set_option maxHeartbeats 4000000
set_option linter.unusedVariables false
set_option linter.unusedSimpArgs false
namespace Go.Proofs.YtbbdfhgcmkljeaaGreatDoor.Bin
open Go Go.Proofs.YtbbdfhgcmkljeaaGreatDoor.Eng Go.RowKit
open Ins Nest Leb
section
variable {g : Glob} {w : World} {l : List As} {q : Nat}
theorem el2 (H : Sat g w l) (x : ElV) (hx : okEl g x) (he : elE x.d = 0) : Fc Tryz.prog 27 #[.agg #[.int .i64 x.pl, x.vf]] w (fun r w' => ∃ t, r = .string (bs t) ∧ t = elT x.d ∧ t.length ≤ 183 ∧ Sat g w' l) := by
  refine Fc.of Tryz.func27 rfl (by kernel_rfl) ?_
  have hx_pl := hx.pl
  have hx_fs := hx.fs
  obtain ⟨he1, he2⟩ := fst_eq0.1 he
  obtain ⟨hl, hall⟩ := eachE_0.1 he2
  simp only [ElV.d] at hl hall
  refine rBoxS H ?_
  clear H
  intro p1 w1 H
  refine drawzS H [] [(0, .pure), (1, .held), (5, .pure), (6, .held), (7, .pure), (2, .forced), (3, .pure), (4, .pure), (8, .free), (9, .pure), (10, .pure)] mixed (by kernel_rfl) (by kernel_rfl) ?_
  clear H
  intro w2 H
  clear w1
  refine tk (fun wx HS => rFieldAt rfl ⟨rfl, rfl⟩) ?_
  refine tk (fun wx HS => rLd (HS.at 0 rfl) 0 rfl rfl rfl ⟨rfl, rfl⟩) ?_
  refine tk (fun wx HS => rFieldAt rfl ⟨rfl, rfl⟩) ?_
  refine tk (fun wx HS => rLd (HS.at 0 rfl) 1 rfl rfl rfl ⟨rfl, rfl⟩) ?_
  refine tk (fun wx HS => rLenF hx_fs rfl ⟨rfl, rfl⟩) ?_
  refine CallP.mk (Fc.imp (Go.Proofs.YtbbdfhgcmkljeaaGreatDoor.Leb.S _ ?_ _) ?_)
  · assumption
  rintro _ w1 ⟨l1, ⟨rfl, ⟨h1, ⟨h2, H'⟩⟩⟩⟩
  refine H.mergeK H' ?_
  clear H H'
  intro H
  refine KeepP.mk (H) ?_
  refine tk (fun wx HS => rCat (by (simp only [List.length_append, List.length_set, List.length_cons, List.length_nil]; omega)) ⟨rfl, rfl⟩) ?_
  refine tk (fun wx HS => rCat (by (simp only [List.length_append, List.length_set, List.length_cons, List.length_nil]; omega)) ⟨rfl, rfl⟩) ?_
  refine CallP.mk (Fc.imp (Go.Proofs.YtbbdfhgcmkljeaaGreatDoor.Bin.number _ ?_ _) ?_)
  · omega
  rintro _ w3 ⟨⟨t1, ⟨rfl, ⟨h3, h4⟩⟩⟩, H'⟩
  refine H.mergeK H' ?_
  clear H H'
  intro H
  refine tk (fun wx HS => rCat (by (simp only [List.length_append, List.length_set, List.length_cons, List.length_nil]; omega)) ⟨rfl, rfl⟩) ?_
  refine rFieldAt rfl ?_
  refine rLd (H.at 0 rfl) 1 rfl rfl rfl ?_
  refine rLenF hx_fs rfl ?_
  have h5 : (uleb x.fs.length).length ≤ 10 := by rw [h3] at h4; exact h4
  refine LoopP.rule (α := Nat × List UInt8) (0, [0, 65] ++ l1 ++ [11] ++ t1) (fun x_ => [(19, .int .i64 x_.1), (3, .string (bs x_.2))]) (fun x_ w_ => (x_.1 ≤ x.fs.length) ∧ (x_.2 = [0, 65] ++ sleb x.pl ++ [11] ++ uleb x.fs.length ++ (x.fs.take x_.1).flatMap numT) ∧ (x_.2.length ≤ 23 + 10 * x_.1) ∧ Sat g w_ ((Pt p1 [.int .i64 x.pl, x.vf] 75 :: l))) (fun x_ => x.fs.length - x_.1) ?_ ?_ ?_
  · repeat first | exact mt_nil | refine mt_cons rfl ?_ | refine mt_i rfl (by first | omega | (simp only; omega) | (simp; omega) | (simp; done)) ?_
  · try simp only
    refine ⟨?_, ?_⟩
    · (rw [h1] at h2; omega)
    refine ⟨?_, ?_⟩
    · (rw [h1, h3]; simp [numT])
    refine ⟨?_, ?_⟩
    · (rw [h1, h3]; simp [numT])
      (rw [h1] at h2; omega)
    (rw [h1] at h2; omega)
  clear H
  rintro ⟨i, ot⟩ f_ w_ ⟨hi, hot, hln, H⟩
  try simp only at hi hot hln H ⊢
  rcases Nat.lt_or_ge i x.fs.length with hlt | hge
  · obtain ⟨n, hn⟩ : ∃ n, x.fs[i]? = some n := ⟨_, List.getElem?_eq_getElem hlt⟩
    have hnb := indexE_0 (hall n (List.mem_of_getElem? hn))
    refine cT (vLt_T (by omega)) ?_
    refine bk ?_
    obtain ⟨b1, o1, E1, F1, hok1⟩ := FSl.elt hx_fs hn
    refine rIxE E1 rfl rfl rfl ?_
    refine rLd (H.fat F1) 0 rfl rfl rfl ?_
    refine CallP.mk (Fc.imp (Go.Proofs.YtbbdfhgcmkljeaaGreatDoor.Bin.number _ ?_ _) ?_)
    · omega
    rintro _ w4 ⟨⟨t2, ⟨rfl, ⟨h6, h7⟩⟩⟩, H'⟩
    refine H.mergeK H' ?_
    clear H H'
    intro H
    refine rCat (by omega) ?_
    refine eqI64 (by omega) ?_
    refine Nxt.mk ((i + 1, ot ++ t2)) (mt_i rfl (by first | omega | (simp only; omega) | (simp; omega)) (mt_cons rfl (mt_nil))) ?_ ?_
    · refine ⟨?_, ?_⟩
      · assumption
      refine ⟨?_, ?_⟩
      · (rw [hot, List.append_assoc, flat_snoc hn]; simp [*])
      refine ⟨?_, ?_⟩
      · (simp only [List.length_append, List.length_set, List.length_cons, List.length_nil]; omega)
      exact H
    omega
  · refine cF (vLt_F (by omega)) ?_
    refine Done.mk ?_
    refine ⟨ot, ?_⟩
    refine ⟨?_, ?_⟩
    · rfl
    refine ⟨?_, ?_⟩
    · (rw [hot, List.take_of_length_le (by omega)]; rfl)
    refine ⟨?_, ?_⟩
    · omega
    refine H.drop 0 ?_
    clear H
    intro H
    exact H
def ST (ot c : List UInt8) (i : Int) (r : List UInt8) : Prop := r = ot ++ secT (byt i) c
theorem st0 {ot c : List UInt8} {i : Int} (h : c = []) : ST ot c i ot := by subst h; exact (List.append_nil _).symm
theorem st1 {ot c t : List UInt8} {i : Int} {b : UInt8} (h : c ≠ []) (hb : b = byt i) (ht : t = uleb c.length) : ST ot c i (ot ++ ([b] ++ t ++ c)) := by
  subst hb ht; unfold ST secT; rw [if_neg h]
theorem section1 {ot : List UInt8} (H : Sat g w (Pt q [.string (bs ot)] 9 :: l)) (i : Int) (hi : 0 ≤ i ∧ i ≤ 255) (c : List UInt8) (hb : ot.length + c.length ≤ 1000000000) : Fc Tryz.prog 11 #[.int .u8 i, .string (bs c), .pointer (some ⟨q, 0, none⟩)] w (fun _ w' => ∃ r, ST ot c i r ∧ r.length ≤ ot.length + c.length + 11 ∧ Sat g w' (Pt q [.string (bs r)] 9 :: l)) := by
  obtain ⟨k, rfl⟩ : ∃ k : UInt8, i = (k.toNat : Int) := ⟨UInt8.ofNat i.toNat, by rw [byte_toNat (by omega)]; omega⟩
  have hcl := k.toNat_lt
  have hbc : byt (k.toNat : Int) = k := by rw [byt_of (by omega)]; simp
  refine Fc.of Tryz.func11 rfl (by kernel_rfl) ?_
  refine rStrNe ?_
  refine cI (fun c1 => ?_) (fun c1 => ?_)
  · replace c1 := dec_f (not_t (c1))
    refine drawtS H [] (.op 0 .held (.op 1 .pure (.op 4 .pure (.op 5 .pure (.op 6 .pure (.op 9 .pure (.fork (.op 2 .forced (.fork (.op 3 .forced (.op 7 .forced (.op 8 .pure (.op 10 .pure (.op 11 .pure (.op 12 .free .nil)))))) (.op 7 .forced (.op 3 .forced (.op 8 .pure (.op 10 .pure (.op 11 .pure (.op 12 .free .nil)))))))) (.op 7 .forced (.op 2 .forced (.op 3 .forced (.op 8 .pure (.op 10 .pure (.op 11 .pure (.op 12 .free .nil)))))))))))))) mixed (by kernel_rfl) ?_
    clear H
    intro w1 H
    refine tk (fun wx HS => rLd (HS.at 0 rfl) 0 rfl rfl rfl ⟨rfl, rfl⟩) ?_
    refine tk (fun wx HS => rLenStr rfl ⟨rfl, rfl⟩) ?_
    refine tk (fun wx HS => rConvU64 (by omega) rfl rfl ⟨rfl, rfl⟩) ?_
    refine ⟨?_, ?_⟩
    · refine rBuildSliceS H rfl rfl rfl rfl ?_
      clear H
      intro p1 w2 H
      clear w1
      refine KeepP.mk (H.drop 0 (fun H => H)) ?_
      refine ⟨?_, ?_⟩
      · refine H.ptSl (n := 1) (en := enY) (s := 1) 0 rfl [_] rfl rfl (fun _ => rfl) rfl ?_
        clear H
        intro H
        refine rBytesStrS H 0 rfl rfl rfl rfl ?_
        refine KeepP.mk (H.drop 0 (fun H => H)) ?_
        refine CallP.mk (Fc.imp (Go.Proofs.YtbbdfhgcmkljeaaGreatDoor.Leb.U _ (c.length) ?_ ?_ _) ?_)
        · omega
        · omega
        rintro _ w1 ⟨l1, ⟨rfl, ⟨h1, ⟨h2, H'⟩⟩⟩⟩
        refine H.mergeK H' ?_
        clear H H'
        intro H
        refine KeepP.mk (H.drop 0 (fun H => H)) ?_
        refine tk (fun wx HS => rCat (by (simp only [List.length_append, List.length_set, List.length_cons, List.length_nil]; omega)) ⟨rfl, rfl⟩) ?_
        refine tk (fun wx HS => rCat (by (simp only [List.length_append, List.length_set, List.length_cons, List.length_nil]; omega)) ⟨rfl, rfl⟩) ?_
        refine tk (fun wx HS => rCat (by (simp only [List.length_append, List.length_set, List.length_cons, List.length_nil]; omega)) ⟨rfl, rfl⟩) ?_
        refine rStS H 1 rfl rfl rfl rfl ?_
        clear H
        intro w3 H
        clear w1
        refine Done.mk ?_
        refine ⟨ot ++ ([k] ++ l1 ++ c), ?_⟩
        refine ⟨?_, ?_⟩
        · exact st1 (by assumption) hbc.symm (by assumption)
        refine ⟨?_, ?_⟩
        · (simp only [List.length_append, List.length_set, List.length_cons, List.length_nil]; omega)
        refine H.fronts [1] ?_
        clear H
        intro H
        refine H.drop 1 ?_
        clear H
        intro H
        exact H
      refine CallP.mk (Fc.imp (Go.Proofs.YtbbdfhgcmkljeaaGreatDoor.Leb.U _ (c.length) ?_ ?_ _) ?_)
      · omega
      · omega
      rintro _ w1 ⟨l1, ⟨rfl, ⟨h1, ⟨h2, H'⟩⟩⟩⟩
      refine H.mergeK H' ?_
      clear H H'
      intro H
      refine KeepP.mk (H.drop 0 (fun H => H)) ?_
      refine H.ptSl (n := 1) (en := enY) (s := 1) 0 rfl [_] rfl rfl (fun _ => rfl) rfl ?_
      clear H
      intro H
      refine rBytesStrS H 0 rfl rfl rfl rfl ?_
      refine KeepP.mk (H.drop 0 (fun H => H)) ?_
      refine tk (fun wx HS => rCat (by (simp only [List.length_append, List.length_set, List.length_cons, List.length_nil]; omega)) ⟨rfl, rfl⟩) ?_
      refine tk (fun wx HS => rCat (by (simp only [List.length_append, List.length_set, List.length_cons, List.length_nil]; omega)) ⟨rfl, rfl⟩) ?_
      refine tk (fun wx HS => rCat (by (simp only [List.length_append, List.length_set, List.length_cons, List.length_nil]; omega)) ⟨rfl, rfl⟩) ?_
      refine rStS H 1 rfl rfl rfl rfl ?_
      clear H
      intro w3 H
      clear w1
      refine Done.mk ?_
      refine ⟨ot ++ ([k] ++ l1 ++ c), ?_⟩
      refine ⟨?_, ?_⟩
      · exact st1 (by assumption) hbc.symm (by assumption)
      refine ⟨?_, ?_⟩
      · (simp only [List.length_append, List.length_set, List.length_cons, List.length_nil]; omega)
      refine H.fronts [1] ?_
      clear H
      intro H
      refine H.drop 1 ?_
      clear H
      intro H
      exact H
    refine CallP.mk (Fc.imp (Go.Proofs.YtbbdfhgcmkljeaaGreatDoor.Leb.U _ (c.length) ?_ ?_ _) ?_)
    · omega
    · omega
    rintro _ w2 ⟨l1, ⟨rfl, ⟨h1, ⟨h2, H'⟩⟩⟩⟩
    refine H.mergeK H' ?_
    clear H H'
    intro H
    refine KeepP.mk (H) ?_
    refine rBuildSliceS H rfl rfl rfl rfl ?_
    clear H
    intro p1 w3 H
    clear w2
    refine KeepP.mk (H.drop 0 (fun H => H)) ?_
    refine H.ptSl (n := 1) (en := enY) (s := 1) 0 rfl [_] rfl rfl (fun _ => rfl) rfl ?_
    clear H
    intro H
    refine rBytesStrS H 0 rfl rfl rfl rfl ?_
    refine KeepP.mk (H.drop 0 (fun H => H)) ?_
    refine tk (fun wx HS => rCat (by (simp only [List.length_append, List.length_set, List.length_cons, List.length_nil]; omega)) ⟨rfl, rfl⟩) ?_
    refine tk (fun wx HS => rCat (by (simp only [List.length_append, List.length_set, List.length_cons, List.length_nil]; omega)) ⟨rfl, rfl⟩) ?_
    refine tk (fun wx HS => rCat (by (simp only [List.length_append, List.length_set, List.length_cons, List.length_nil]; omega)) ⟨rfl, rfl⟩) ?_
    refine rStS H 1 rfl rfl rfl rfl ?_
    clear H
    intro w2 H
    clear w3
    refine Done.mk ?_
    refine ⟨ot ++ ([k] ++ l1 ++ c), ?_⟩
    refine ⟨?_, ?_⟩
    · exact st1 (by assumption) hbc.symm (by assumption)
    refine ⟨?_, ?_⟩
    · (simp only [List.length_append, List.length_set, List.length_cons, List.length_nil]; omega)
    refine H.fronts [1] ?_
    clear H
    intro H
    refine H.drop 1 ?_
    clear H
    intro H
    exact H
  replace c1 := dec_t (not_f (c1))
  refine Done.mk ?_
  refine ⟨ot, ?_⟩
  refine ⟨?_, ?_⟩
  · exact st0 (by assumption)
  refine ⟨?_, ?_⟩
  · omega
  exact H
end
end Go.Proofs.YtbbdfhgcmkljeaaGreatDoor.Bin
/- Package bin: code as bytes. -/
set_option maxRecDepth 100000
set_option maxHeartbeats 4000000
set_option linter.unusedVariables false
set_option linter.unusedSimpArgs false
namespace Go.Proofs.YtbbdfhgcmkljeaaGreatDoor.Bin
open Go Go.Proofs.YtbbdfhgcmkljeaaGreatDoor.Eng Go.RowKit
open Ins Nest Leb
section
variable {g : Glob} {w : World} {l : List As} {q : Nat}
/-- So many runs are told, up to a place. -/
structure RL (loc : List Int) (fr : Nat) (ds : List (Nat × Int)) : Prop where
  all : rle loc = ds ++ rle (loc.drop fr)
  le : ds.length ≤ fr
theorem RL.zero (loc : List Int) : RL loc 0 [] := ⟨rfl, Nat.le_refl _⟩
theorem RL.step {loc : List Int} {fr tt : Nat} {ds : List (Nat × Int)} {k : Int} (h : RL loc fr ds) (hi : loc[fr]? = some k) (hij : fr < tt) (hj : tt ≤ loc.length) (hrun : ∀ q, fr ≤ q → q < tt → loc[q]? = some k) (hend : loc[tt]? ≠ some k) : RL loc tt (ds ++ [(tt - fr, k)]) :=
  ⟨by rw [h.all, rle_at hi hij hj hrun hend, List.append_assoc]; rfl, by rw [List.length_append]; have := h.le; simp; omega⟩
theorem RL.fin {loc : List Int} {fr : Nat} {ds : List (Nat × Int)} (h : RL loc fr ds) (hf : loc.length ≤ fr) : ds = rle loc := by
  rw [h.all, List.drop_of_length_le hf]; simp [rle]
theorem run_step {loc : List Int} {fr tt : Nat} {k x : Int} (h : ∀ q, fr ≤ q → q < tt → loc[q]? = some k) (hx : loc[tt]? = some x) (he : x = k) : ∀ q, fr ≤ q → q < tt + 1 → loc[q]? = some k := fun q h1 h2 => by
  rcases Nat.lt_or_ge q tt with h3 | h3
  · exact h q h1 h3
  · obtain rfl : q = tt := by omega
    rw [hx, he]
def RG (loc : List Int) (fr : Nat) (gt : List UInt8) (n : Nat) : Prop := ∃ ds, RL loc fr ds ∧ gt = ds.flatMap runT ∧ n = ds.length
theorem RG.zero (loc : List Int) : RG loc 0 [] 0 := ⟨[], RL.zero _, rfl, rfl⟩
theorem RG.le {loc : List Int} {fr n : Nat} {gt : List UInt8} (h : RG loc fr gt n) : n ≤ fr := by obtain ⟨ds, h1, _, rfl⟩ := h; exact h1.le
theorem RG.step {loc : List Int} {fr tt n : Nat} {gt t : List UInt8} {k : Int} {b : UInt8} (h : RG loc fr gt n) (hi : loc[fr]? = some k) (hij : fr < tt) (hj : tt ≤ loc.length) (hrun : ∀ q, fr ≤ q → q < tt → loc[q]? = some k) (hend : loc[tt]? ≠ some k) (ht : t = numT ((tt : Int) - fr)) (hb : b = byt k) : RG loc tt (gt ++ (t ++ [b])) (n + 1) := by
  obtain ⟨ds, h1, h2, h3⟩ := h
  subst hb ht
  refine ⟨ds ++ [(tt - fr, k)], h1.step hi hij hj hrun hend, ?_, by rw [h3]; simp⟩
  have e : ((tt : Int) - fr).toNat = tt - fr := by omega
  rw [h2, List.flatMap_append]
  simp [runT, numT, e]
theorem RG.fin {loc : List Int} {fr n : Nat} {gt : List UInt8} (h : RG loc fr gt n) (hf : loc.length ≤ fr) : gt = (rle loc).flatMap runT ∧ n = (rle loc).length := by
  obtain ⟨ds, h1, h2, h3⟩ := h
  rw [h1.fin hf] at h2 h3
  exact ⟨h2, h3⟩
theorem end1 {loc : List Int} {tt : Nat} {k x : Int} (hx : loc[tt]? = some x) (h : x ≠ k) : loc[tt]? ≠ some k := by rw [hx]; intro e; exact h (Option.some.inj e)
theorem end2 {loc : List Int} {tt : Nat} {k : Int} (h : loc.length ≤ tt) : loc[tt]? ≠ some k := by rw [List.getElem?_eq_none h]; nofun
theorem code_fin {f : FunV} {gt ot t1 t2 : List UInt8} {n : Nat} (hg : gt = (rle f.loc).flatMap runT ∧ n = (rle f.loc).length) (ho : ot = if chkB (f.body.map InsV.d) = 0 then txtL (f.body.map InsV.d) else []) (hc : chkB (f.body.map InsV.d) = 0) (h1 : t1 = numT n) (h2 : t2 = numT (t1 ++ gt ++ ot).length) : t2 ++ (t1 ++ gt ++ ot) = codeT f.d := by
  rw [if_pos hc] at ho
  have e : t1 ++ gt ++ ot = allT f.d := by
    rw [h1, hg.1, hg.2, ho]; rfl
  rw [h2, e]; rfl
theorem code2 (H : Sat g w l) (fv : FunV) (hx : okFn g fv) (he : funE fv.d = 0) : Fc Tryz.prog 29 #[.agg #[.int .i64 fv.ty, fv.vl, fv.vb]] w (fun r w' => ∃ t, r = .string (bs t) ∧ t = codeT fv.d ∧ t.length ≤ 80196 ∧ Sat g w' l) := by
  refine Fc.of Tryz.func29 rfl (by kernel_rfl) ?_
  have hx_loc := hx.loc
  have hx_body := hx.body
  obtain ⟨he1, he23⟩ := fst_eq0.1 he
  obtain ⟨he2, he3⟩ := fst_eq0.1 he23
  obtain ⟨hl, hall⟩ := eachE_0.1 he2
  simp only [FunV.d] at hl hall he3
  have hrl := rle_len fv.loc
  refine rBoxS H ?_
  clear H
  intro p1 w1 H
  refine LoopP.rule (α := Nat × List UInt8 × Nat) (0, [], 0) (fun x_ => [(5, .int .i64 x_.1), (3, .string (bs x_.2.1)), (4, .int .i64 x_.2.2)]) (fun x_ w_ => (x_.1 ≤ fv.loc.length) ∧ (RG fv.loc x_.1 x_.2.1 x_.2.2) ∧ (x_.2.1.length ≤ 11 * x_.2.2) ∧ Sat g w_ ((Pt p1 [.int .i64 fv.ty, fv.vl, fv.vb] 61 :: l))) (fun x_ => fv.loc.length - x_.1) ?_ ?_ ?_
  · repeat first | exact mt_nil | refine mt_cons rfl ?_ | refine mt_i rfl (by first | omega | (simp only; omega) | (simp; omega) | (simp; done)) ?_
  · try simp only
    refine ⟨?_, ?_⟩
    · omega
    refine ⟨?_, ?_⟩
    · exact RG.zero _
    refine ⟨?_, ?_⟩
    · (constructor <;> omega)
    exact H
  clear H
  rintro ⟨fr, gt, n⟩ f_ w_ ⟨hf, hR, hgl, H⟩
  try simp only at hf hR hgl H ⊢
  have hdl := hR.le
  rcases Nat.lt_or_ge fr fv.loc.length with hlt | hge
  · obtain ⟨k, hk⟩ : ∃ k, fv.loc[fr]? = some k := ⟨_, List.getElem?_eq_getElem hlt⟩
    have hkk := kindE_0 (hall k (List.mem_of_getElem? hk))
    refine rFieldAt rfl ?_
    refine rLd (H.at 0 rfl) 1 rfl rfl rfl ?_
    refine rLenF hx_loc rfl ?_
    refine cT (vLt_T (by omega)) ?_
    refine bk ?_
    refine LoopP.rule (α := Nat) (fr) (fun x_ => [(6, .int .i64 x_)]) (fun x_ w_ => (fr ≤ x_ ∧ x_ ≤ fv.loc.length) ∧ (∀ q, fr ≤ q → q < x_ → fv.loc[q]? = some k) ∧ Sat g w_ ((Pt p1 [.int .i64 fv.ty, fv.vl, fv.vb] 61 :: l))) (fun x_ => fv.loc.length - x_) ?_ ?_ ?_
    · repeat first | exact mt_nil | refine mt_cons rfl ?_ | refine mt_i rfl (by first | omega | (simp only; omega) | (simp; omega) | (simp; done)) ?_
    · try simp only
      refine ⟨?_, ?_⟩
      · refine ⟨?_, ?_⟩
        · omega
        assumption
      refine ⟨?_, ?_⟩
      · (intro q h1 h2; omega)
      exact H
    clear H
    rintro tt f_ w_ ⟨ht, hrun, H⟩
    try simp only at ht hrun H ⊢
    rcases Nat.lt_or_ge tt fv.loc.length with hlt2 | hge2
    · obtain ⟨z, hz⟩ : ∃ z, fv.loc[tt]? = some z := ⟨_, List.getElem?_eq_getElem hlt2⟩
      by_cases hzk : z = k
      · refine drawzS H [] [(0, .pure), (1, .pure), (2, .held), (3, .pure), (4, .pure), (5, .pure), (6, .pure), (7, .held), (8, .pure), (9, .pure), (10, .held), (11, .pure), (12, .held), (13, .pure), (14, .pure), (15, .held), (16, .pure), (17, .pure)] mixed (by kernel_rfl) (by kernel_rfl) ?_
        clear H
        intro w2 H
        clear w_
        refine tk (fun wx HS => rFieldAt rfl ⟨rfl, rfl⟩) ?_
        refine tk (fun wx HS => rLd (HS.at 0 rfl) 1 rfl rfl rfl ⟨rfl, rfl⟩) ?_
        refine tk (fun wx HS => rLenF hx_loc rfl ⟨rfl, rfl⟩) ?_
        refine br_t (vLt_T (by omega)) ?_
        refine tk (fun wx HS => rFieldAt rfl ⟨rfl, rfl⟩) ?_
        refine tk (fun wx HS => rLd (HS.at 0 rfl) 1 rfl rfl rfl ⟨rfl, rfl⟩) ?_
        obtain ⟨b1, o1, E1, F1, hok1⟩ := FSl.elt hx_loc hz
        refine tk (fun wx HS => rIxE E1 rfl rfl rfl ⟨rfl, rfl⟩) ?_
        refine tk (fun wx HS => rLd (HS.fat F1) 0 rfl rfl rfl ⟨rfl, rfl⟩) ?_
        refine tk (fun wx HS => rFieldAt rfl ⟨rfl, rfl⟩) ?_
        refine tk (fun wx HS => rLd (HS.at 0 rfl) 1 rfl rfl rfl ⟨rfl, rfl⟩) ?_
        obtain ⟨b2, o2, E2, F2, hok2⟩ := FSl.elt hx_loc hk
        refine tk (fun wx HS => rIxE E2 rfl rfl rfl ⟨rfl, rfl⟩) ?_
        refine tk (fun wx HS => rLd (HS.fat F2) 0 rfl rfl rfl ⟨rfl, rfl⟩) ?_
        refine cT (vEq_T (by assumption)) ?_
        refine bk ?_
        refine eqI64 (by omega) ?_
        refine Nxt.mk (tt + 1) (mt_i rfl (by first | omega | (simp only; omega) | (simp; omega)) (mt_nil)) ?_ ?_
        · refine ⟨?_, ?_⟩
          · refine ⟨?_, ?_⟩
            · omega
            assumption
          refine ⟨?_, ?_⟩
          · exact run_step hrun hz hzk
          exact H
        omega
      · have hne : fr < tt := by
          rcases Nat.lt_or_ge fr tt with h | h
          · exact h
          · obtain rfl : tt = fr := by omega
            rw [hk] at hz
            exact absurd (Option.some.inj hz).symm hzk
        refine drawzS H [] [(0, .pure), (1, .pure), (2, .held), (3, .pure), (4, .pure), (5, .pure), (6, .pure), (7, .held), (8, .pure), (9, .pure), (10, .held), (11, .pure), (12, .held), (13, .pure), (14, .pure), (15, .held), (16, .pure), (17, .pure)] mixed (by kernel_rfl) (by kernel_rfl) ?_
        clear H
        intro w2 H
        clear w_
        refine tk (fun wx HS => rFieldAt rfl ⟨rfl, rfl⟩) ?_
        refine tk (fun wx HS => rLd (HS.at 0 rfl) 1 rfl rfl rfl ⟨rfl, rfl⟩) ?_
        refine tk (fun wx HS => rLenF hx_loc rfl ⟨rfl, rfl⟩) ?_
        refine br_t (vLt_T (by omega)) ?_
        refine tk (fun wx HS => rFieldAt rfl ⟨rfl, rfl⟩) ?_
        refine tk (fun wx HS => rLd (HS.at 0 rfl) 1 rfl rfl rfl ⟨rfl, rfl⟩) ?_
        obtain ⟨b1, o1, E1, F1, hok1⟩ := FSl.elt hx_loc hz
        refine tk (fun wx HS => rIxE E1 rfl rfl rfl ⟨rfl, rfl⟩) ?_
        refine tk (fun wx HS => rLd (HS.fat F1) 0 rfl rfl rfl ⟨rfl, rfl⟩) ?_
        refine tk (fun wx HS => rFieldAt rfl ⟨rfl, rfl⟩) ?_
        refine tk (fun wx HS => rLd (HS.at 0 rfl) 1 rfl rfl rfl ⟨rfl, rfl⟩) ?_
        obtain ⟨b2, o2, E2, F2, hok2⟩ := FSl.elt hx_loc hk
        refine tk (fun wx HS => rIxE E2 rfl rfl rfl ⟨rfl, rfl⟩) ?_
        refine tk (fun wx HS => rLd (HS.fat F2) 0 rfl rfl rfl ⟨rfl, rfl⟩) ?_
        refine cF (vEq_F (by assumption)) ?_
        refine drawtS H [] (.op 0 .pure (.op 1 .pure (.op 2 .pure (.op 3 .pure (.op 5 .pure (.op 6 .held (.op 7 .pure (.op 8 .pure (.op 9 .held (.fork (.op 4 .forced (.op 10 .free (.op 11 .free (.op 12 .pure (.op 13 .pure (.op 14 .pure .nil)))))) (.op 10 .forced (.fork (.op 4 .forced (.op 11 .free (.op 12 .pure (.op 13 .pure (.op 14 .pure .nil))))) (.op 11 .forced (.op 4 .forced (.op 12 .pure (.op 13 .pure (.op 14 .pure .nil))))))))))))))))) mixed (by kernel_rfl) ?_
        clear H
        intro w3 H
        clear w2
        refine eqI64 (by omega) ?_
        refine tk (fun wx HS => rFieldAt rfl ⟨rfl, rfl⟩) ?_
        refine tk (fun wx HS => rLd (HS.at 0 rfl) 1 rfl rfl rfl ⟨rfl, rfl⟩) ?_
        refine tk (fun wx HS => rIxE E2 rfl rfl rfl ⟨rfl, rfl⟩) ?_
        refine tk (fun wx HS => rLd (HS.fat F2) 0 rfl rfl rfl ⟨rfl, rfl⟩) ?_
        refine ⟨?_, ?_⟩
        · refine CallP.mk (Fc.imp (Go.Proofs.YtbbdfhgcmkljeaaGreatDoor.Bin.number _ ?_ _) ?_)
          · omega
          rintro _ w2 ⟨⟨t1, ⟨rfl, ⟨h1, h2⟩⟩⟩, H'⟩
          refine H.mergeK H' ?_
          clear H H'
          intro H
          refine KeepP.mk (H) ?_
          refine rBuildSliceS H rfl rfl rfl rfl ?_
          clear H
          intro p2 w4 H
          clear w2
          have hbk1 := byteIs (x := k) (n := (k).toNat) (by omega)
          rw [hbk1] at H
          clear hbk1
          refine H.ptSl (n := 1) (en := enY) (s := 1) 0 rfl [_] rfl rfl (fun _ => rfl) rfl ?_
          clear H
          intro H
          refine rBytesStrS H 0 rfl rfl rfl rfl ?_
          refine tk (fun wx HS => rCat (by (simp only [List.length_append, List.length_set, List.length_cons, List.length_nil]; omega)) ⟨rfl, rfl⟩) ?_
          refine tk (fun wx HS => rCat (by (simp only [List.length_append, List.length_set, List.length_cons, List.length_nil]; omega)) ⟨rfl, rfl⟩) ?_
          refine eqI64 (by omega) ?_
          refine Nxt.mk ((tt, gt ++ (t1 ++ [UInt8.ofNat k.toNat]), n + 1)) (mt_cons rfl (mt_cons rfl (mt_i rfl (by first | omega | (simp only; omega) | (simp; omega)) (mt_nil)))) ?_ ?_
          · refine ⟨?_, ?_⟩
            · omega
            refine ⟨?_, ?_⟩
            · exact RG.step hR hk hne (by omega) hrun (end1 hz hzk) h1 (byt_n (by omega))
            refine ⟨?_, ?_⟩
            · (simp only [List.length_append, List.length_set, List.length_cons, List.length_nil]; omega)
            refine H.fronts [1] ?_
            clear H
            intro H
            refine H.drop 1 ?_
            clear H
            intro H
            exact H
          omega
        refine rBuildSliceS H rfl rfl rfl rfl ?_
        clear H
        intro p2 w2 H
        clear w3
        refine KeepP.mk (H.drop 0 (fun H => H)) ?_
        refine ⟨?_, ?_⟩
        · refine CallP.mk (Fc.imp (Go.Proofs.YtbbdfhgcmkljeaaGreatDoor.Bin.number _ ?_ _) ?_)
          · omega
          rintro _ w3 ⟨⟨t1, ⟨rfl, ⟨h1, h2⟩⟩⟩, H'⟩
          refine H.mergeK H' ?_
          clear H H'
          intro H
          refine KeepP.mk (H.drop 0 (fun H => H)) ?_
          have hbk1 := byteIs (x := k) (n := (k).toNat) (by omega)
          rw [hbk1] at H
          clear hbk1
          refine H.ptSl (n := 1) (en := enY) (s := 1) 0 rfl [_] rfl rfl (fun _ => rfl) rfl ?_
          clear H
          intro H
          refine rBytesStrS H 0 rfl rfl rfl rfl ?_
          refine tk (fun wx HS => rCat (by (simp only [List.length_append, List.length_set, List.length_cons, List.length_nil]; omega)) ⟨rfl, rfl⟩) ?_
          refine tk (fun wx HS => rCat (by (simp only [List.length_append, List.length_set, List.length_cons, List.length_nil]; omega)) ⟨rfl, rfl⟩) ?_
          refine eqI64 (by omega) ?_
          refine Nxt.mk ((tt, gt ++ (t1 ++ [UInt8.ofNat k.toNat]), n + 1)) (mt_cons rfl (mt_cons rfl (mt_i rfl (by first | omega | (simp only; omega) | (simp; omega)) (mt_nil)))) ?_ ?_
          · refine ⟨?_, ?_⟩
            · omega
            refine ⟨?_, ?_⟩
            · exact RG.step hR hk hne (by omega) hrun (end1 hz hzk) h1 (byt_n (by omega))
            refine ⟨?_, ?_⟩
            · (simp only [List.length_append, List.length_set, List.length_cons, List.length_nil]; omega)
            refine H.fronts [1] ?_
            clear H
            intro H
            refine H.drop 1 ?_
            clear H
            intro H
            exact H
          omega
        have hbk1 := byteIs (x := k) (n := (k).toNat) (by omega)
        rw [hbk1] at H
        clear hbk1
        refine H.ptSl (n := 1) (en := enY) (s := 1) 0 rfl [_] rfl rfl (fun _ => rfl) rfl ?_
        clear H
        intro H
        refine rBytesStrS H 0 rfl rfl rfl rfl ?_
        refine KeepP.mk (H.drop 0 (fun H => H)) ?_
        refine CallP.mk (Fc.imp (Go.Proofs.YtbbdfhgcmkljeaaGreatDoor.Bin.number _ ?_ _) ?_)
        · omega
        rintro _ w3 ⟨⟨t1, ⟨rfl, ⟨h1, h2⟩⟩⟩, H'⟩
        refine H.mergeK H' ?_
        clear H H'
        intro H
        refine KeepP.mk (H.drop 0 (fun H => H)) ?_
        refine tk (fun wx HS => rCat (by (simp only [List.length_append, List.length_set, List.length_cons, List.length_nil]; omega)) ⟨rfl, rfl⟩) ?_
        refine tk (fun wx HS => rCat (by (simp only [List.length_append, List.length_set, List.length_cons, List.length_nil]; omega)) ⟨rfl, rfl⟩) ?_
        refine eqI64 (by omega) ?_
        refine Nxt.mk ((tt, gt ++ (t1 ++ [UInt8.ofNat k.toNat]), n + 1)) (mt_cons rfl (mt_cons rfl (mt_i rfl (by first | omega | (simp only; omega) | (simp; omega)) (mt_nil)))) ?_ ?_
        · refine ⟨?_, ?_⟩
          · omega
          refine ⟨?_, ?_⟩
          · exact RG.step hR hk hne (by omega) hrun (end1 hz hzk) h1 (byt_n (by omega))
          refine ⟨?_, ?_⟩
          · (simp only [List.length_append, List.length_set, List.length_cons, List.length_nil]; omega)
          refine H.fronts [1] ?_
          clear H
          intro H
          refine H.drop 1 ?_
          clear H
          intro H
          exact H
        omega
    · refine drawzS H [] [(0, .pure), (1, .pure), (2, .held), (3, .pure), (4, .pure), (5, .pure), (6, .pure), (7, .held), (8, .pure), (9, .pure), (10, .held), (11, .pure), (12, .held), (13, .pure), (14, .pure), (15, .held), (16, .pure), (17, .pure)] mixed (by kernel_rfl) (by kernel_rfl) ?_
      clear H
      intro w2 H
      clear w_
      refine tk (fun wx HS => rFieldAt rfl ⟨rfl, rfl⟩) ?_
      refine tk (fun wx HS => rLd (HS.at 0 rfl) 1 rfl rfl rfl ⟨rfl, rfl⟩) ?_
      refine tk (fun wx HS => rLenF hx_loc rfl ⟨rfl, rfl⟩) ?_
      refine br_f (vLt_F (by omega)) ?_
      refine cF rfl ?_
      refine drawtS H [] (.op 0 .pure (.op 1 .pure (.op 2 .pure (.op 3 .pure (.op 5 .pure (.op 6 .held (.op 7 .pure (.op 8 .pure (.op 9 .held (.fork (.op 4 .forced (.op 10 .free (.op 11 .free (.op 12 .pure (.op 13 .pure (.op 14 .pure .nil)))))) (.op 10 .forced (.fork (.op 4 .forced (.op 11 .free (.op 12 .pure (.op 13 .pure (.op 14 .pure .nil))))) (.op 11 .forced (.op 4 .forced (.op 12 .pure (.op 13 .pure (.op 14 .pure .nil))))))))))))))))) mixed (by kernel_rfl) ?_
      clear H
      intro w3 H
      clear w2
      refine eqI64 (by omega) ?_
      refine tk (fun wx HS => rFieldAt rfl ⟨rfl, rfl⟩) ?_
      refine tk (fun wx HS => rLd (HS.at 0 rfl) 1 rfl rfl rfl ⟨rfl, rfl⟩) ?_
      obtain ⟨b1, o1, E1, F1, hok1⟩ := FSl.elt hx_loc hk
      refine tk (fun wx HS => rIxE E1 rfl rfl rfl ⟨rfl, rfl⟩) ?_
      refine tk (fun wx HS => rLd (HS.fat F1) 0 rfl rfl rfl ⟨rfl, rfl⟩) ?_
      refine ⟨?_, ?_⟩
      · refine CallP.mk (Fc.imp (Go.Proofs.YtbbdfhgcmkljeaaGreatDoor.Bin.number _ ?_ _) ?_)
        · omega
        rintro _ w2 ⟨⟨t1, ⟨rfl, ⟨h1, h2⟩⟩⟩, H'⟩
        refine H.mergeK H' ?_
        clear H H'
        intro H
        refine KeepP.mk (H) ?_
        refine rBuildSliceS H rfl rfl rfl rfl ?_
        clear H
        intro p2 w4 H
        clear w2
        have hbk1 := byteIs (x := k) (n := (k).toNat) (by omega)
        rw [hbk1] at H
        clear hbk1
        refine H.ptSl (n := 1) (en := enY) (s := 1) 0 rfl [_] rfl rfl (fun _ => rfl) rfl ?_
        clear H
        intro H
        refine rBytesStrS H 0 rfl rfl rfl rfl ?_
        refine tk (fun wx HS => rCat (by (simp only [List.length_append, List.length_set, List.length_cons, List.length_nil]; omega)) ⟨rfl, rfl⟩) ?_
        refine tk (fun wx HS => rCat (by (simp only [List.length_append, List.length_set, List.length_cons, List.length_nil]; omega)) ⟨rfl, rfl⟩) ?_
        refine eqI64 (by omega) ?_
        refine Nxt.mk ((tt, gt ++ (t1 ++ [UInt8.ofNat k.toNat]), n + 1)) (mt_cons rfl (mt_cons rfl (mt_i rfl (by first | omega | (simp only; omega) | (simp; omega)) (mt_nil)))) ?_ ?_
        · refine ⟨?_, ?_⟩
          · omega
          refine ⟨?_, ?_⟩
          · exact RG.step hR hk (by omega) (by omega) hrun (end2 hge2) h1 (byt_n (by omega))
          refine ⟨?_, ?_⟩
          · (simp only [List.length_append, List.length_set, List.length_cons, List.length_nil]; omega)
          refine H.fronts [1] ?_
          clear H
          intro H
          refine H.drop 1 ?_
          clear H
          intro H
          exact H
        omega
      refine rBuildSliceS H rfl rfl rfl rfl ?_
      clear H
      intro p2 w2 H
      clear w3
      refine KeepP.mk (H.drop 0 (fun H => H)) ?_
      refine ⟨?_, ?_⟩
      · refine CallP.mk (Fc.imp (Go.Proofs.YtbbdfhgcmkljeaaGreatDoor.Bin.number _ ?_ _) ?_)
        · omega
        rintro _ w3 ⟨⟨t1, ⟨rfl, ⟨h1, h2⟩⟩⟩, H'⟩
        refine H.mergeK H' ?_
        clear H H'
        intro H
        refine KeepP.mk (H.drop 0 (fun H => H)) ?_
        have hbk1 := byteIs (x := k) (n := (k).toNat) (by omega)
        rw [hbk1] at H
        clear hbk1
        refine H.ptSl (n := 1) (en := enY) (s := 1) 0 rfl [_] rfl rfl (fun _ => rfl) rfl ?_
        clear H
        intro H
        refine rBytesStrS H 0 rfl rfl rfl rfl ?_
        refine tk (fun wx HS => rCat (by (simp only [List.length_append, List.length_set, List.length_cons, List.length_nil]; omega)) ⟨rfl, rfl⟩) ?_
        refine tk (fun wx HS => rCat (by (simp only [List.length_append, List.length_set, List.length_cons, List.length_nil]; omega)) ⟨rfl, rfl⟩) ?_
        refine eqI64 (by omega) ?_
        refine Nxt.mk ((tt, gt ++ (t1 ++ [UInt8.ofNat k.toNat]), n + 1)) (mt_cons rfl (mt_cons rfl (mt_i rfl (by first | omega | (simp only; omega) | (simp; omega)) (mt_nil)))) ?_ ?_
        · refine ⟨?_, ?_⟩
          · omega
          refine ⟨?_, ?_⟩
          · exact RG.step hR hk (by omega) (by omega) hrun (end2 hge2) h1 (byt_n (by omega))
          refine ⟨?_, ?_⟩
          · (simp only [List.length_append, List.length_set, List.length_cons, List.length_nil]; omega)
          refine H.fronts [1] ?_
          clear H
          intro H
          refine H.drop 1 ?_
          clear H
          intro H
          exact H
        omega
      have hbk1 := byteIs (x := k) (n := (k).toNat) (by omega)
      rw [hbk1] at H
      clear hbk1
      refine H.ptSl (n := 1) (en := enY) (s := 1) 0 rfl [_] rfl rfl (fun _ => rfl) rfl ?_
      clear H
      intro H
      refine rBytesStrS H 0 rfl rfl rfl rfl ?_
      refine KeepP.mk (H.drop 0 (fun H => H)) ?_
      refine CallP.mk (Fc.imp (Go.Proofs.YtbbdfhgcmkljeaaGreatDoor.Bin.number _ ?_ _) ?_)
      · omega
      rintro _ w3 ⟨⟨t1, ⟨rfl, ⟨h1, h2⟩⟩⟩, H'⟩
      refine H.mergeK H' ?_
      clear H H'
      intro H
      refine KeepP.mk (H.drop 0 (fun H => H)) ?_
      refine tk (fun wx HS => rCat (by (simp only [List.length_append, List.length_set, List.length_cons, List.length_nil]; omega)) ⟨rfl, rfl⟩) ?_
      refine tk (fun wx HS => rCat (by (simp only [List.length_append, List.length_set, List.length_cons, List.length_nil]; omega)) ⟨rfl, rfl⟩) ?_
      refine eqI64 (by omega) ?_
      refine Nxt.mk ((tt, gt ++ (t1 ++ [UInt8.ofNat k.toNat]), n + 1)) (mt_cons rfl (mt_cons rfl (mt_i rfl (by first | omega | (simp only; omega) | (simp; omega)) (mt_nil)))) ?_ ?_
      · refine ⟨?_, ?_⟩
        · omega
        refine ⟨?_, ?_⟩
        · exact RG.step hR hk (by omega) (by omega) hrun (end2 hge2) h1 (byt_n (by omega))
        refine ⟨?_, ?_⟩
        · (simp only [List.length_append, List.length_set, List.length_cons, List.length_nil]; omega)
        refine H.fronts [1] ?_
        clear H
        intro H
        refine H.drop 1 ?_
        clear H
        intro H
        exact H
      omega
  · have hds := hR.fin hge
    refine rFieldAt rfl ?_
    refine rLd (H.at 0 rfl) 1 rfl rfl rfl ?_
    refine rLenF hx_loc rfl ?_
    refine cF (vLt_F (by omega)) ?_
    refine rFieldAt rfl ?_
    refine rLd (H.at 0 rfl) 2 rfl rfl rfl ?_
    refine CallP.mk (Fc.imp (Go.Proofs.YtbbdfhgcmkljeaaGreatDoor.Nest.write H _ _ hx_body) ?_)
    clear H
    rintro _ w2 ⟨ot1, ⟨e1, ⟨rfl, ⟨h1, ⟨h2, ⟨h3, H⟩⟩⟩⟩⟩⟩
    refine CallP.mk (Fc.imp (Go.Proofs.YtbbdfhgcmkljeaaGreatDoor.Bin.number _ ?_ _) ?_)
    · omega
    rintro _ w3 ⟨⟨t1, ⟨rfl, ⟨h4, h5⟩⟩⟩, H'⟩
    refine H.mergeK H' ?_
    clear H H'
    intro H
    refine rCat (by omega) ?_
    refine rCat (by (simp only [List.length_append, List.length_set, List.length_cons, List.length_nil]; omega)) ?_
    refine rLenStr rfl ?_
    refine CallP.mk (Fc.imp (Go.Proofs.YtbbdfhgcmkljeaaGreatDoor.Bin.number _ ?_ _) ?_)
    · (simp only [List.length_append, List.length_set, List.length_cons, List.length_nil]; omega)
    rintro _ w4 ⟨⟨t2, ⟨rfl, ⟨h6, h7⟩⟩⟩, H'⟩
    refine H.mergeK H' ?_
    clear H H'
    intro H
    refine rCat (by (simp only [List.length_append, List.length_set, List.length_cons, List.length_nil]; omega)) ?_
    refine Done.mk ?_
    refine ⟨t2 ++ (t1 ++ gt ++ ot1), ?_⟩
    refine ⟨?_, ?_⟩
    · rfl
    refine ⟨?_, ?_⟩
    · exact code_fin hds h2 he3 h4 h6
    refine ⟨?_, ?_⟩
    · (simp only [List.length_append, List.length_set, List.length_cons, List.length_nil]; omega)
    refine H.drop 0 ?_
    clear H
    intro H
    exact H
end
end Go.Proofs.YtbbdfhgcmkljeaaGreatDoor.Bin
/- Package bin: Write. -/
set_option maxRecDepth 100000
set_option maxHeartbeats 4000000
set_option linter.unusedVariables false
set_option linter.unusedSimpArgs false
namespace Go.Proofs.YtbbdfhgcmkljeaaGreatDoor.Bin
open Go Go.Proofs.YtbbdfhgcmkljeaaGreatDoor.Eng Go.RowKit
open Ins Nest Leb
section
variable {g : Glob} {w : World} {l : List As} {q : Nat}

theorem listEl (H : Sat g w l) (v : Value) (xs : List ElV) (hx : FSl g enEl (okEl g) 2 v xs) (hl : xs.length ≤ 16) (he : ∀ x ∈ xs, elE x.d = 0) : Fc Tryz.prog 26 #[v, .func (.func 27) #[] #[]] w (fun r w' => ∃ t, r = .string (bs t) ∧ t = listT (fun x : ElV => elT x.d) xs ∧ t.length ≤ 2938 ∧ Sat g w' l) := by
  refine Fc.of Tryz.func26 rfl (by kernel_rfl) ?_
  refine rLenF hx rfl ?_
  refine cI (fun c1 => ?_) (fun c1 => ?_)
  · replace c1 := vEq_t (c1)
    refine Done.mk ?_
    refine ⟨[], ?_⟩
    refine ⟨?_, ?_⟩
    · rfl
    refine ⟨?_, ?_⟩
    · exact (if_pos (List.eq_nil_of_length_eq_zero (by omega))).symm
    refine ⟨?_, ?_⟩
    · (simp only [List.length_append, List.length_set, List.length_cons, List.length_nil]; omega)
    exact H
  replace c1 := vEq_f (c1)
  refine rLenF hx rfl ?_
  refine CallP.mk (Fc.imp (Go.Proofs.YtbbdfhgcmkljeaaGreatDoor.Bin.number _ ?_ _) ?_)
  · omega
  rintro _ w1 ⟨⟨t1, ⟨rfl, ⟨h1, h2⟩⟩⟩, H'⟩
  refine H.mergeK H' ?_
  clear H H'
  intro H
  refine rLenF hx rfl ?_
  have hne : xs ≠ [] := fun h => c1 (by rw [h]; rfl)
  refine LoopP.rule (α := Nat × List UInt8) (0, t1) (fun x_ => [(16, .int .i64 x_.1), (5, .string (bs x_.2))]) (fun x_ w_ => (x_.1 ≤ xs.length) ∧ (x_.2 = uleb xs.length ++ (xs.take x_.1).flatMap (fun x : ElV => elT x.d)) ∧ (x_.2.length ≤ 10 + 183 * x_.1) ∧ Sat g w_ (l)) (fun x_ => xs.length - x_.1) ?_ ?_ ?_
  · repeat first | exact mt_nil | refine mt_cons rfl ?_ | refine mt_i rfl (by first | omega | (simp only; omega) | (simp; omega) | (simp; done)) ?_
  · try simp only
    refine ⟨?_, ?_⟩
    · omega
    refine ⟨?_, ?_⟩
    · (rw [h1]; simp [numT])
    refine ⟨?_, ?_⟩
    · (rw [h1]; simp [numT])
      (rw [h1] at h2; exact h2)
    exact H
  clear H
  rintro ⟨i, ot⟩ f_ w_ ⟨hi, hot, hln, H⟩
  try simp only at hi hot hln H ⊢
  refine cI (fun c2 => ?_) (fun c2 => ?_)
  · replace c2 := vLt_t (c2)
    refine bk ?_
    obtain ⟨x1, hx1⟩ : ∃ x, (xs)[(i)]? = some x := ⟨_, List.getElem?_eq_getElem (by omega)⟩
    obtain ⟨b1, o1, E1, F1, hok1⟩ := FSl.elt hx hx1
    have hok1_pl := hok1.pl
    have hok1_fs := hok1.fs
    refine rIxE E1 rfl rfl rfl ?_
    refine rLdA (H.fat F1) 0 rfl rfl rfl ?_
    refine rAllocS H rfl ?_
    clear H
    intro p1 w2 H
    clear w_
    refine rStAS H 0 rfl rfl rfl (by simp only [List.all_cons, List.all_nil, FSl.one hok1_fs, FSl.one hx]; rfl) ?_
    clear H
    intro w3 H
    clear w2
    refine rLdA (H.at 0 rfl) 0 rfl rfl rfl ?_
    refine CallP.mk (Fc.imp (Go.Proofs.YtbbdfhgcmkljeaaGreatDoor.Bin.el2 H _ ?_ ?_) ?_)
    · assumption
    · exact he _ (List.mem_of_getElem? hx1)
    clear H
    rintro _ w2 ⟨t2, ⟨rfl, ⟨h3, ⟨h4, H⟩⟩⟩⟩
    refine rCat (by omega) ?_
    refine eqI64 (by omega) ?_
    refine Nxt.mk ((i + 1, ot ++ t2)) (mt_i rfl (by first | omega | (simp only; omega) | (simp; omega)) (mt_cons rfl (mt_nil))) ?_ ?_
    · refine ⟨?_, ?_⟩
      · omega
      refine ⟨?_, ?_⟩
      · (rw [hot, List.append_assoc, flat_snoc hx1]; simp [*])
      refine ⟨?_, ?_⟩
      · (simp only [List.length_append, List.length_set, List.length_cons, List.length_nil]; omega)
      refine H.drop 0 ?_
      clear H
      intro H
      exact H
    omega
  replace c2 := vLt_f (c2)
  refine Done.mk ?_
  refine ⟨ot, ?_⟩
  refine ⟨?_, ?_⟩
  · rfl
  refine ⟨?_, ?_⟩
  · (rw [hot, List.take_of_length_le (by omega)]; exact (if_neg hne).symm)
  refine ⟨?_, ?_⟩
  · omega
  exact H

theorem listCd (H : Sat g w l) (v : Value) (xs : List FunV) (hx : FSl g enFn (okFn g) 3 v xs) (hl : xs.length ≤ 16) (he : ∀ x ∈ xs, funE x.d = 0) : Fc Tryz.prog 20 #[v, .func (.func 29) #[] #[]] w (fun r w' => ∃ t, r = .string (bs t) ∧ t = listT (fun x : FunV => codeT x.d) xs ∧ t.length ≤ 1283146 ∧ Sat g w' l) := by
  refine Fc.of Tryz.func20 rfl (by kernel_rfl) ?_
  refine rLenF hx rfl ?_
  refine cI (fun c1 => ?_) (fun c1 => ?_)
  · replace c1 := vEq_t (c1)
    refine Done.mk ?_
    refine ⟨[], ?_⟩
    refine ⟨?_, ?_⟩
    · rfl
    refine ⟨?_, ?_⟩
    · exact (if_pos (List.eq_nil_of_length_eq_zero (by omega))).symm
    refine ⟨?_, ?_⟩
    · (simp only [List.length_append, List.length_set, List.length_cons, List.length_nil]; omega)
    exact H
  replace c1 := vEq_f (c1)
  refine rLenF hx rfl ?_
  refine CallP.mk (Fc.imp (Go.Proofs.YtbbdfhgcmkljeaaGreatDoor.Bin.number _ ?_ _) ?_)
  · omega
  rintro _ w1 ⟨⟨t1, ⟨rfl, ⟨h1, h2⟩⟩⟩, H'⟩
  refine H.mergeK H' ?_
  clear H H'
  intro H
  refine rLenF hx rfl ?_
  have hne : xs ≠ [] := fun h => c1 (by rw [h]; rfl)
  refine LoopP.rule (α := Nat × List UInt8) (0, t1) (fun x_ => [(16, .int .i64 x_.1), (5, .string (bs x_.2))]) (fun x_ w_ => (x_.1 ≤ xs.length) ∧ (x_.2 = uleb xs.length ++ (xs.take x_.1).flatMap (fun x : FunV => codeT x.d)) ∧ (x_.2.length ≤ 10 + 80196 * x_.1) ∧ Sat g w_ (l)) (fun x_ => xs.length - x_.1) ?_ ?_ ?_
  · repeat first | exact mt_nil | refine mt_cons rfl ?_ | refine mt_i rfl (by first | omega | (simp only; omega) | (simp; omega) | (simp; done)) ?_
  · try simp only
    refine ⟨?_, ?_⟩
    · omega
    refine ⟨?_, ?_⟩
    · (rw [h1]; simp [numT])
    refine ⟨?_, ?_⟩
    · (rw [h1]; simp [numT])
      (rw [h1] at h2; exact h2)
    exact H
  clear H
  rintro ⟨i, ot⟩ f_ w_ ⟨hi, hot, hln, H⟩
  try simp only at hi hot hln H ⊢
  refine cI (fun c2 => ?_) (fun c2 => ?_)
  · replace c2 := vLt_t (c2)
    refine bk ?_
    obtain ⟨x1, hx1⟩ : ∃ x, (xs)[(i)]? = some x := ⟨_, List.getElem?_eq_getElem (by omega)⟩
    obtain ⟨b1, o1, E1, F1, hok1⟩ := FSl.elt hx hx1
    have hok1_ty := hok1.ty
    have hok1_loc := hok1.loc
    have hok1_body := hok1.body
    refine rIxE E1 rfl rfl rfl ?_
    refine rLdA (H.fat F1) 0 rfl rfl rfl ?_
    refine rAllocS H rfl ?_
    clear H
    intro p1 w2 H
    clear w_
    refine rStAS H 0 rfl rfl rfl (by simp only [List.all_cons, List.all_nil, FSl.one hok1_body, FSl.one hok1_loc, FSl.one hx]; rfl) ?_
    clear H
    intro w3 H
    clear w2
    refine rLdA (H.at 0 rfl) 0 rfl rfl rfl ?_
    refine CallP.mk (Fc.imp (Go.Proofs.YtbbdfhgcmkljeaaGreatDoor.Bin.code2 H _ ?_ ?_) ?_)
    · assumption
    · exact he _ (List.mem_of_getElem? hx1)
    clear H
    rintro _ w2 ⟨t2, ⟨rfl, ⟨h3, ⟨h4, H⟩⟩⟩⟩
    refine rCat (by omega) ?_
    refine eqI64 (by omega) ?_
    refine Nxt.mk ((i + 1, ot ++ t2)) (mt_i rfl (by first | omega | (simp only; omega) | (simp; omega)) (mt_cons rfl (mt_nil))) ?_ ?_
    · refine ⟨?_, ?_⟩
      · omega
      refine ⟨?_, ?_⟩
      · (rw [hot, List.append_assoc, flat_snoc hx1]; simp [*])
      refine ⟨?_, ?_⟩
      · (simp only [List.length_append, List.length_set, List.length_cons, List.length_nil]; omega)
      refine H.drop 0 ?_
      clear H
      intro H
      exact H
    omega
  replace c2 := vLt_f (c2)
  refine Done.mk ?_
  refine ⟨ot, ?_⟩
  refine ⟨?_, ?_⟩
  · rfl
  refine ⟨?_, ?_⟩
  · (rw [hot, List.take_of_length_le (by omega)]; exact (if_neg hne).symm)
  refine ⟨?_, ?_⟩
  · omega
  exact H

structure PartsM (m : ModV) : Prop where
  types : m.types.length ≤ 16
  typesE : ∀ x ∈ m.types, sigE x.d = 0
  imps : m.imps.length ≤ 16
  impsE : ∀ x ∈ m.imps, impE x = 0
  funcs : m.funcs.length ≤ 16
  funcsE : ∀ x ∈ m.funcs, funE x.d = 0
  table : 0 ≤ m.table ∧ m.table ≤ 16
  pages : 0 ≤ m.pages ∧ m.pages ≤ m.most
  most : m.most ≤ 8
  globals : m.globals.length ≤ 16
  globalsE : ∀ x ∈ m.globals, gloE x = 0
  exps : m.exps.length ≤ 16
  expsE : ∀ x ∈ m.exps, impE x = 0
  start : 0 ≤ m.start ∧ m.start ≤ 4294967295
  elems : m.elems.length ≤ 16
  elemsE : ∀ x ∈ m.elems, elE x.d = 0
  data : m.data.length ≤ 16
  dataE : ∀ x ∈ m.data, datE x = 0
theorem geE_0 {a b : Int} (h : geE a b = 0) : a ≤ b := by
  unfold geE at h
  split at h
  · assumption
  · cases h
theorem leE_0 {a b : Int} (h : leE a b = 0) : a ≤ b := by
  unfold leE at h
  split at h
  · assumption
  · cases h
theorem pagE_0 {a b : Int} (h : pagE a b = 0) : 0 ≤ a ∧ a ≤ b := by
  unfold pagE at h
  split at h
  · assumption
  · cases h
theorem chkM_0 {m : ModV} (h : chkM m.d = 0) : PartsM m := by
  unfold chkM at h
  simp only [ModV.d, eachE_map, fst_eq0, eachE_0] at h
  obtain ⟨⟨a1, a2⟩, ⟨b1, b2⟩, ⟨c1, c2⟩, d1, d2, e1, e2, ⟨f1, f2⟩, ⟨g1, g2⟩, h1, ⟨i1, i2⟩, j1, j2⟩ := h
  exact ⟨by omega, a2, by omega, b2, by omega, c2, ⟨geE_0 d1, leE_0 d2⟩, pagE_0 e1, leE_0 e2, by omega, f2, by omega, g2, indexE_0 h1, by omega, i2, by omega, j2⟩
end
end Go.Proofs.YtbbdfhgcmkljeaaGreatDoor.Bin
/- Package bin: Write. -/
set_option maxRecDepth 100000
set_option maxHeartbeats 4000000
set_option linter.unusedVariables false
set_option linter.unusedSimpArgs false
namespace Go.Proofs.YtbbdfhgcmkljeaaGreatDoor.Bin
open Go Go.Proofs.YtbbdfhgcmkljeaaGreatDoor.Eng Go.RowKit
open Ins Nest Leb
section
variable {g : Glob} {w : World} {l : List As} {q : Nat}
def wrE (m : ModD) : Int := if chkM m ≠ 0 then chkM m else if 4096 < (modT m).length then 2 else 0
theorem tab_f {ot : List UInt8} {n : Int} (h : n ≤ 0) : ST ot (tabT n) 4 ot := st0 (if_neg (by omega))
theorem tab_t {ot t r : List UInt8} {n : Int} (h : 0 < n) (ht : t = numT n) (hs : ST ot ([1, 112, 0] ++ t) 4 r) : ST ot (tabT n) 4 r := by
  rw [tabT, if_pos h, ← ht]; exact hs
theorem mem_f {ot : List UInt8} {p n : Int} (h : n ≤ 0) : ST ot (memT p n) 5 ot := st0 (if_neg (by omega))
theorem mem_t {ot t u r : List UInt8} {p n : Int} (h : 0 < n) (ht : t = numT p) (hu : u = numT n) (hs : ST ot ([1, 1] ++ t ++ u) 5 r) : ST ot (memT p n) 5 r := by
  rw [memT, if_pos h, ← ht, ← hu]; exact hs
theorem sta_f {ot : List UInt8} {n : Int} (h : n ≤ 0) : ST ot (staT n) 8 ot := st0 (if_neg (by omega))
theorem sta_t {ot t r : List UInt8} {n : Int} (h : 0 < n) (ht : t = numT (n - 1)) (hs : ST ot t 8 r) : ST ot (staT n) 8 r := by
  rw [staT, if_pos h, ← ht]; exact hs
theorem listT_map {α β : Type} (one : β → List UInt8) (d : α → β) (l : List α) : listT one (l.map d) = listT (fun x => one (d x)) l := by
  unfold listT
  rw [List.length_map, List.flatMap_map]
  simp
theorem mod_fin {m : ModV} {r1 r2 r3 r4 r5 r6 r7 r8 q4 q5 q8 t1 t2 t3 t4 t5 t6 t7 t8 : List UInt8} (s1 : ST headT t1 1 r1) (s2 : ST r1 t2 2 r2) (s3 : ST r2 t3 3 r3) (s4 : ST r3 (tabT m.table) 4 q4) (s5 : ST q4 (memT m.pages m.most) 5 q5) (s6 : ST q5 t4 6 r4) (s7 : ST r4 t5 7 r5)
    (s8 : ST r5 (staT m.start) 8 q8) (s9 : ST q8 t6 9 r6) (s10 : ST r6 t7 10 r7) (s11 : ST r7 t8 11 r8) (h1 : t1 = listT (fun x => sigT x.d) m.types) (h2 : t2 = listT (fun x => impT x) m.imps) (h3 : t3 = listT (fun x => numT x.d.ty) m.funcs)
    (h4 : t4 = listT (fun x => gloT x) m.globals) (h5 : t5 = listT (fun x => expT x) m.exps) (h6 : t6 = listT (fun x => elT x.d) m.elems) (h7 : t7 = listT (fun x => codeT x.d) m.funcs) (h8 : t8 = listT (fun x => datT x) m.data) : r8 = modT m.d := by
  unfold ST at *
  subst h1 h2 h3 h4 h5 h6 h7 h8
  rw [s11, s10, s9, s8, s7, s6, s5, s4, s3, s2, s1]
  unfold modT
  simp only [ModV.d, listT_map]
  rfl
theorem write (H : Sat g w l) (hT : U8F g) (m : ModV) (hm : okMd g m) : Fc Tryz.prog 6 #[.agg #[m.vt, m.vm, m.vf, .int .i64 m.table, .int .i64 m.pages, .int .i64 m.most, m.vg, m.vx, .int .i64 m.start, m.ve, m.vd]] w (fun v w' => ∃ t e, v = .tuple #[.string (bs t), .int .i64 e] ∧ e = wrE m.d ∧ t = (if wrE m.d = 0 then modT m.d else []) ∧ t.length ≤ 4096 ∧ Sat g w' l) := by
  refine Fc.of Tryz.func6 rfl (by kernel_rfl) ?_
  by_cases hc : chkM m.d = 0
  · have P := chkM_0 hc
    have hm_types := hm.types
    have hm_imps := hm.imps
    have hm_funcs := hm.funcs
    have hm_globals := hm.globals
    have hm_exps := hm.exps
    have hm_elems := hm.elems
    have hm_data := hm.data
    have P_types := P.types
    have P_typesE := P.typesE
    have P_imps := P.imps
    have P_impsE := P.impsE
    have P_funcs := P.funcs
    have P_funcsE := P.funcsE
    have P_table := P.table
    have P_pages := P.pages
    have P_most := P.most
    have P_globals := P.globals
    have P_globalsE := P.globalsE
    have P_exps := P.exps
    have P_expsE := P.expsE
    have P_start := P.start
    have P_elems := P.elems
    have P_elemsE := P.elemsE
    have P_data := P.data
    have P_dataE := P.dataE
    have h8 : headT.length = 8 := rfl
    have e0 : (⟨#[0, 97, 115, 109, 1, 0, 0, 0]⟩ : ByteArray) = bs headT := rfl
    refine rBoxS H ?_
    clear H
    intro p1 w1 H
    refine rLdA (H.at 0 rfl) 0 rfl rfl rfl ?_
    refine CallP.mk (Fc.imp (Go.Proofs.YtbbdfhgcmkljeaaGreatDoor.Bin.check H ?_ _ ?_) ?_)
    · assumption
    · assumption
    clear H
    rintro _ w2 ⟨⟨e1, ⟨rfl, h1⟩⟩, H⟩
    refine cF (vNe_F (by omega)) ?_
    refine rAllocS H rfl ?_
    clear H
    intro p2 w3 H
    clear w2
    refine rStS H 0 rfl rfl rfl rfl ?_
    clear H
    intro w2 H
    clear w3
    refine rFieldAt rfl ?_
    refine rLd (H.at 1 rfl) 0 rfl rfl rfl ?_
    refine CallP.mk (Fc.imp (Go.Proofs.YtbbdfhgcmkljeaaGreatDoor.Bin.listSg H _ _ hm_types ?_ ?_) ?_)
    · assumption
    · assumption
    clear H
    rintro _ w3 ⟨t1, ⟨rfl, ⟨h2, ⟨h3, H⟩⟩⟩⟩
    rw [e0] at H
    refine CallP.mk (Fc.imp (Go.Proofs.YtbbdfhgcmkljeaaGreatDoor.Bin.section1 H _ ?_ _ ?_) ?_)
    · omega
    · omega
    clear H
    rintro v' w4 ⟨r1, ⟨h4, ⟨h5, H⟩⟩⟩
    refine rFieldAt rfl ?_
    refine rLd (H.at 1 rfl) 1 rfl rfl rfl ?_
    refine CallP.mk (Fc.imp (Go.Proofs.YtbbdfhgcmkljeaaGreatDoor.Bin.listIm H ?_ _ _ hm_imps ?_ ?_) ?_)
    · assumption
    · assumption
    · assumption
    clear H
    rintro _ w5 ⟨t2, ⟨rfl, ⟨h6, ⟨h7, H⟩⟩⟩⟩
    refine CallP.mk (Fc.imp (Go.Proofs.YtbbdfhgcmkljeaaGreatDoor.Bin.section1 H _ ?_ _ ?_) ?_)
    · omega
    · omega
    clear H
    rintro va' w6 ⟨r2, ⟨h9, ⟨h10, H⟩⟩⟩
    refine rFieldAt rfl ?_
    refine rLd (H.at 1 rfl) 2 rfl rfl rfl ?_
    refine CallP.mk (Fc.imp (Go.Proofs.YtbbdfhgcmkljeaaGreatDoor.Bin.listFt H _ _ hm_funcs ?_ ?_) ?_)
    · assumption
    · assumption
    clear H
    rintro _ w7 ⟨t3, ⟨rfl, ⟨h11, ⟨h12, H⟩⟩⟩⟩
    refine CallP.mk (Fc.imp (Go.Proofs.YtbbdfhgcmkljeaaGreatDoor.Bin.section1 H _ ?_ _ ?_) ?_)
    · omega
    · omega
    clear H
    rintro vb' w8 ⟨r3, ⟨h13, ⟨h14, H⟩⟩⟩
    refine rFieldAt rfl ?_
    refine rLd (H.at 1 rfl) 3 rfl rfl rfl ?_
    refine cond_join (α := List UInt8) (fun x_ => []) (fun x_ w_ => (ST r3 (tabT m.table) 4 x_) ∧ (x_.length ≤ r3.length + 30) ∧ Sat g w_ ((Pt p2 [.string (bs x_)] 9 :: Pt p1 [m.vt, m.vm, m.vf, .int .i64 m.table, .int .i64 m.pages, .int .i64 m.most, m.vg, m.vx, .int .i64 m.start, m.ve, m.vd] 30 :: l))) (fun hb => ?_) (fun hb => ?_) ?_
    · replace hb := vLt_t hb
      refine rFieldAt rfl ?_
      refine rLd (H.at 1 rfl) 3 rfl rfl rfl ?_
      refine CallP.mk (Fc.imp (Go.Proofs.YtbbdfhgcmkljeaaGreatDoor.Bin.number _ ?_ _) ?_)
      · (simp only [List.length_append, List.length_cons, List.length_nil] at *; omega)
      rintro _ w9 ⟨⟨t4, ⟨rfl, ⟨h15, h16⟩⟩⟩, H'⟩
      refine H.mergeK H' ?_
      clear H H'
      intro H
      refine rCat (by (simp only [List.length_append, List.length_set, List.length_cons, List.length_nil]; omega)) ?_
      refine CallP.mk (Fc.imp (Go.Proofs.YtbbdfhgcmkljeaaGreatDoor.Bin.section1 H _ ?_ _ ?_) ?_)
      · (simp only [List.length_append, List.length_cons, List.length_nil] at *; omega)
      · (simp only [List.length_append, List.length_cons, List.length_nil] at *; omega)
      clear H
      rintro vc' w10 ⟨r4, ⟨h17, ⟨h18, H⟩⟩⟩
      refine Jn.mk (r4) (mt_nil) ?_
      refine ⟨?_, ?_⟩
      · exact tab_t (by omega) (by assumption) (by assumption)
      refine ⟨?_, ?_⟩
      · (simp only [List.length_append, List.length_cons, List.length_nil] at *; omega)
      (simp only [List.length_append, List.length_cons, List.length_nil] at *; omega)
    · replace hb := vLt_f hb
      refine Jn.mk (r3) (mt_nil) ?_
      refine ⟨?_, ?_⟩
      · exact tab_f (by omega)
      refine ⟨?_, ?_⟩
      · omega
      exact H
    clear H
    rintro q4 f_ w_ ⟨hs4, hn4, H⟩
    try simp only at hs4 hn4 H ⊢
    refine rFieldAt rfl ?_
    refine rLd (H.at 1 rfl) 5 rfl rfl rfl ?_
    refine cond_join (α := List UInt8) (fun x_ => []) (fun x_ w_ => (ST q4 (memT m.pages m.most) 5 x_) ∧ (x_.length ≤ q4.length + 40) ∧ Sat g w_ ((Pt p2 [.string (bs x_)] 9 :: Pt p1 [m.vt, m.vm, m.vf, .int .i64 m.table, .int .i64 m.pages, .int .i64 m.most, m.vg, m.vx, .int .i64 m.start, m.ve, m.vd] 30 :: l))) (fun hb => ?_) (fun hb => ?_) ?_
    · replace hb := vLt_t hb
      refine drawzS H [] [(0, .pure), (1, .pure), (2, .held), (5, .pure), (6, .held), (3, .forced), (4, .pure), (7, .free), (8, .pure), (9, .free)] mixed (by kernel_rfl) (by kernel_rfl) ?_
      clear H
      intro w9 H
      clear w_
      refine tk (fun wx HS => rFieldAt rfl ⟨rfl, rfl⟩) ?_
      refine tk (fun wx HS => rLd (HS.at 1 rfl) 4 rfl rfl rfl ⟨rfl, rfl⟩) ?_
      refine tk (fun wx HS => rFieldAt rfl ⟨rfl, rfl⟩) ?_
      refine tk (fun wx HS => rLd (HS.at 1 rfl) 5 rfl rfl rfl ⟨rfl, rfl⟩) ?_
      refine CallP.mk (Fc.imp (Go.Proofs.YtbbdfhgcmkljeaaGreatDoor.Bin.number _ ?_ _) ?_)
      · omega
      rintro _ w10 ⟨⟨t4, ⟨rfl, ⟨h15, h16⟩⟩⟩, H'⟩
      refine H.mergeK H' ?_
      clear H H'
      intro H
      refine KeepP.mk (H) ?_
      refine tk (fun wx HS => rCat (by (simp only [List.length_append, List.length_set, List.length_cons, List.length_nil]; omega)) ⟨rfl, rfl⟩) ?_
      refine CallP.mk (Fc.imp (Go.Proofs.YtbbdfhgcmkljeaaGreatDoor.Bin.number _ ?_ _) ?_)
      · omega
      rintro _ w11 ⟨⟨t5, ⟨rfl, ⟨h17, h18⟩⟩⟩, H'⟩
      refine H.mergeK H' ?_
      clear H H'
      intro H
      refine tk (fun wx HS => rCat (by (simp only [List.length_append, List.length_set, List.length_cons, List.length_nil]; omega)) ⟨rfl, rfl⟩) ?_
      refine CallP.mk (Fc.imp (Go.Proofs.YtbbdfhgcmkljeaaGreatDoor.Bin.section1 H _ ?_ _ ?_) ?_)
      · omega
      · (simp only [List.length_append, List.length_cons, List.length_nil] at *; omega)
      clear H
      rintro vc' w12 ⟨r4, ⟨h19, ⟨h20, H⟩⟩⟩
      refine Jn.mk (r4) (mt_nil) ?_
      refine ⟨?_, ?_⟩
      · exact mem_t (by omega) (by assumption) (by assumption) (by assumption)
      refine ⟨?_, ?_⟩
      · (simp only [List.length_append, List.length_cons, List.length_nil] at *; omega)
      (simp only [List.length_append, List.length_cons, List.length_nil] at *; omega)
    · replace hb := vLt_f hb
      refine Jn.mk (q4) (mt_nil) ?_
      refine ⟨?_, ?_⟩
      · exact mem_f (by omega)
      refine ⟨?_, ?_⟩
      · omega
      exact H
    clear H
    rintro q5 f_ w_ ⟨hs5, hn5, H⟩
    try simp only at hs5 hn5 H ⊢
    refine rFieldAt rfl ?_
    refine rLd (H.at 1 rfl) 6 rfl rfl rfl ?_
    refine CallP.mk (Fc.imp (Go.Proofs.YtbbdfhgcmkljeaaGreatDoor.Bin.listGl H _ _ hm_globals ?_ ?_) ?_)
    · assumption
    · assumption
    clear H
    rintro _ w9 ⟨t4, ⟨rfl, ⟨h15, ⟨h16, H⟩⟩⟩⟩
    refine CallP.mk (Fc.imp (Go.Proofs.YtbbdfhgcmkljeaaGreatDoor.Bin.section1 H _ ?_ _ ?_) ?_)
    · omega
    · omega
    clear H
    rintro vc' w10 ⟨r4, ⟨h17, ⟨h18, H⟩⟩⟩
    refine rFieldAt rfl ?_
    refine rLd (H.at 1 rfl) 7 rfl rfl rfl ?_
    refine CallP.mk (Fc.imp (Go.Proofs.YtbbdfhgcmkljeaaGreatDoor.Bin.listEx H ?_ _ _ hm_exps ?_ ?_) ?_)
    · assumption
    · assumption
    · assumption
    clear H
    rintro _ w11 ⟨t5, ⟨rfl, ⟨h19, ⟨h20, H⟩⟩⟩⟩
    refine CallP.mk (Fc.imp (Go.Proofs.YtbbdfhgcmkljeaaGreatDoor.Bin.section1 H _ ?_ _ ?_) ?_)
    · omega
    · omega
    clear H
    rintro vd' w12 ⟨r5, ⟨h21, ⟨h22, H⟩⟩⟩
    refine rFieldAt rfl ?_
    refine rLd (H.at 1 rfl) 8 rfl rfl rfl ?_
    refine cond_join (α := List UInt8) (fun x_ => []) (fun x_ w_ => (ST r5 (staT m.start) 8 x_) ∧ (x_.length ≤ r5.length + 30) ∧ Sat g w_ ((Pt p2 [.string (bs x_)] 9 :: Pt p1 [m.vt, m.vm, m.vf, .int .i64 m.table, .int .i64 m.pages, .int .i64 m.most, m.vg, m.vx, .int .i64 m.start, m.ve, m.vd] 30 :: l))) (fun hb => ?_) (fun hb => ?_) ?_
    · replace hb := vLt_t hb
      refine rFieldAt rfl ?_
      refine rLd (H.at 1 rfl) 8 rfl rfl rfl ?_
      refine eqI64 (by omega) ?_
      refine CallP.mk (Fc.imp (Go.Proofs.YtbbdfhgcmkljeaaGreatDoor.Bin.number _ ?_ _) ?_)
      · omega
      rintro _ w13 ⟨⟨t6, ⟨rfl, ⟨h23, h24⟩⟩⟩, H'⟩
      refine H.mergeK H' ?_
      clear H H'
      intro H
      refine CallP.mk (Fc.imp (Go.Proofs.YtbbdfhgcmkljeaaGreatDoor.Bin.section1 H _ ?_ _ ?_) ?_)
      · omega
      · omega
      clear H
      rintro ve' w14 ⟨r6, ⟨h25, ⟨h26, H⟩⟩⟩
      refine Jn.mk (r6) (mt_nil) ?_
      refine ⟨?_, ?_⟩
      · exact sta_t (by omega) (by assumption) (by assumption)
      refine ⟨?_, ?_⟩
      · omega
      exact H
    · replace hb := vLt_f hb
      refine Jn.mk (r5) (mt_nil) ?_
      refine ⟨?_, ?_⟩
      · exact sta_f (by omega)
      refine ⟨?_, ?_⟩
      · omega
      exact H
    clear H
    rintro q8 f_ w_ ⟨hs8, hn8, H⟩
    try simp only at hs8 hn8 H ⊢
    refine rFieldAt rfl ?_
    refine rLd (H.at 1 rfl) 9 rfl rfl rfl ?_
    refine CallP.mk (Fc.imp (Go.Proofs.YtbbdfhgcmkljeaaGreatDoor.Bin.listEl H _ _ hm_elems ?_ ?_) ?_)
    · assumption
    · assumption
    clear H
    rintro _ w13 ⟨t6, ⟨rfl, ⟨h23, ⟨h24, H⟩⟩⟩⟩
    refine CallP.mk (Fc.imp (Go.Proofs.YtbbdfhgcmkljeaaGreatDoor.Bin.section1 H _ ?_ _ ?_) ?_)
    · omega
    · omega
    clear H
    rintro ve' w14 ⟨r6, ⟨h25, ⟨h26, H⟩⟩⟩
    refine rFieldAt rfl ?_
    refine rLd (H.at 1 rfl) 2 rfl rfl rfl ?_
    refine CallP.mk (Fc.imp (Go.Proofs.YtbbdfhgcmkljeaaGreatDoor.Bin.listCd H _ _ hm_funcs ?_ ?_) ?_)
    · assumption
    · assumption
    clear H
    rintro _ w15 ⟨t7, ⟨rfl, ⟨h27, ⟨h28, H⟩⟩⟩⟩
    refine CallP.mk (Fc.imp (Go.Proofs.YtbbdfhgcmkljeaaGreatDoor.Bin.section1 H _ ?_ _ ?_) ?_)
    · omega
    · omega
    clear H
    rintro vf' w16 ⟨r7, ⟨h29, ⟨h30, H⟩⟩⟩
    refine rFieldAt rfl ?_
    refine rLd (H.at 1 rfl) 10 rfl rfl rfl ?_
    refine CallP.mk (Fc.imp (Go.Proofs.YtbbdfhgcmkljeaaGreatDoor.Bin.listDt H _ _ hm_data ?_ ?_) ?_)
    · assumption
    · assumption
    clear H
    rintro _ w17 ⟨t8, ⟨rfl, ⟨h31, ⟨h32, H⟩⟩⟩⟩
    refine CallP.mk (Fc.imp (Go.Proofs.YtbbdfhgcmkljeaaGreatDoor.Bin.section1 H _ ?_ _ ?_) ?_)
    · omega
    · omega
    clear H
    rintro vg' w18 ⟨r8, ⟨h33, ⟨h34, H⟩⟩⟩
    refine rLd (H.at 0 rfl) 0 rfl rfl rfl ?_
    refine rLenStr rfl ?_
    have hr := mod_fin h4 h9 h13 hs4 hs5 h17 h21 hs8 h25 h29 h33 h2 h6 h11 h15 h19 h23 h27 h31
    have hw : wrE m.d = if 4096 < r8.length then 2 else 0 := by
      unfold wrE; rw [if_neg (fun h => h hc), hr]
    refine cI (fun c1 => ?_) (fun c1 => ?_)
    · replace c1 := vLt_t (c1)
      refine Done.mk ?_
      refine ⟨[], 2, ?_⟩
      refine ⟨?_, ?_⟩
      · rfl
      refine ⟨?_, ?_⟩
      · (rw [hw, if_pos (by omega)])
      refine ⟨?_, ?_⟩
      · (rw [hw, if_neg (by omega)])
      refine ⟨?_, ?_⟩
      · (simp only [List.length_append, List.length_set, List.length_cons, List.length_nil]; omega)
      refine H.drop 1 ?_
      clear H
      intro H
      refine H.drop 0 ?_
      clear H
      intro H
      exact H
    replace c1 := vLt_f (c1)
    refine rLd (H.at 0 rfl) 0 rfl rfl rfl ?_
    refine Done.mk ?_
    refine ⟨r8, 0, ?_⟩
    refine ⟨?_, ?_⟩
    · rfl
    refine ⟨?_, ?_⟩
    · (rw [hw, if_neg (by omega)])
    refine ⟨?_, ?_⟩
    · (rw [hw, if_pos (by omega)])
      assumption
    refine ⟨?_, ?_⟩
    · omega
    refine H.drop 1 ?_
    clear H
    intro H
    refine H.drop 0 ?_
    clear H
    intro H
    exact H
  · have hw : wrE m.d = chkM m.d := if_pos hc
    refine rBoxS H ?_
    clear H
    intro p1 w1 H
    refine rLdA (H.at 0 rfl) 0 rfl rfl rfl ?_
    refine CallP.mk (Fc.imp (Go.Proofs.YtbbdfhgcmkljeaaGreatDoor.Bin.check H ?_ _ ?_) ?_)
    · assumption
    · assumption
    clear H
    rintro _ w2 ⟨⟨e1, ⟨rfl, h1⟩⟩, H⟩
    refine cT (vNe_T (by omega)) ?_
    refine Done.mk ?_
    refine ⟨[], e1, ?_⟩
    refine ⟨?_, ?_⟩
    · rfl
    refine ⟨?_, ?_⟩
    · (rw [hw]; assumption)
    refine ⟨?_, ?_⟩
    · (rw [hw]; exact (if_neg hc).symm)
    refine ⟨?_, ?_⟩
    · (simp only [List.length_append, List.length_set, List.length_cons, List.length_nil]; omega)
    refine H.drop 0 ?_
    clear H
    intro H
    exact H
end
end Go.Proofs.YtbbdfhgcmkljeaaGreatDoor.Bin
/- Texts of modules are apart: the plain law. -/
set_option maxRecDepth 100000
set_option maxHeartbeats 4000000
set_option linter.unusedVariables false
set_option linter.unusedSimpArgs false
namespace Go.Proofs.YtbbdfhgcmkljeaaGreatDoor.Bin
open Go Go.Proofs.YtbbdfhgcmkljeaaGreatDoor.Eng Go.RowKit
open Ins Nest Leb
theorem kindsT_is (l : List Int) : kindsT l = uleb l.length ++ l.flatMap (fun k => [byt k]) := by
  unfold kindsT
  congr 1
  induction l with
  | nil => rfl
  | cons a r ih => rw [List.map_cons, ih]; rfl
theorem rle_mem (l : List Int) : ∀ x ∈ rle l, x.1 ≤ l.length ∧ x.2 ∈ l := by
  induction l with
  | nil => intro x hx; cases hx
  | cons a r ih =>
    intro x hx
    rw [rle] at hx
    split at hx
    · rw [List.mem_singleton.1 hx]; simp
    · rename_i n y q h
      rw [h] at ih
      split at hx
      · rcases List.mem_cons.1 hx with rfl | h1
        · have := ih (n, y) (.head _)
          simp only at this
          exact ⟨by simp; omega, .tail _ this.2⟩
        · have := ih x (.tail _ h1)
          exact ⟨by simp; omega, .tail _ this.2⟩
      · rcases List.mem_cons.1 hx with rfl | h1
        · exact ⟨by simp, .head _⟩
        · have := ih x h1
          exact ⟨by simp; omega, .tail _ this.2⟩
structure OkF (f : FunD) : Prop where
  e : funE f = 0
  ops : opsOk f.body
/-! Sections. -/
def secsT (l : List (UInt8 × List UInt8)) : List UInt8 := l.flatMap fun x => secT x.1 x.2
end Go.Proofs.YtbbdfhgcmkljeaaGreatDoor.Bin
/- Texts of modules are apart. -/
set_option maxRecDepth 100000
set_option maxHeartbeats 4000000
set_option linter.unusedVariables false
set_option linter.unusedSimpArgs false
namespace Go.Proofs.YtbbdfhgcmkljeaaGreatDoor.Bin
open Go Go.Proofs.YtbbdfhgcmkljeaaGreatDoor.Eng Go.RowKit
open Ins Nest Leb
structure OkM (m : ModD) : Prop where
  e : chkM m = 0
  ops : ∀ f ∈ m.funcs, opsOk f.body
  gl : ∀ x ∈ m.globals, I64 x.2.2
  len : (modT m).length ≤ 4096
def secs (m : ModD) : List (UInt8 × List UInt8) := [(1, listT sigT m.types), (2, listT impT m.imps), (3, listT (fun f => numT f.ty) m.funcs), (4, tabT m.table), (5, memT m.pages m.most), (6, listT gloT m.globals), (7, listT expT m.exps), (8, staT m.start), (9, listT elT m.elems), (10, listT codeT m.funcs), (11, listT datT m.data)]
theorem modT_secs (m : ModD) : modT m = headT ++ secsT (secs m) := by
  unfold modT secsT secs
  simp only [List.flatMap_cons, List.flatMap_nil, List.append_nil, List.append_assoc]
theorem flat_len {α : Type} {f : α → List UInt8} {l : List α} {x : α} (hx : x ∈ l) : (f x).length ≤ (listT f l).length := by
  have : (f x).length ≤ (l.flatMap f).length := by
    induction l with
    | nil => cases hx
    | cons y r ih =>
      rw [List.flatMap_cons, List.length_append]
      rcases List.mem_cons.1 hx with rfl | h
      · omega
      · have := ih h; omega
  unfold listT
  rw [if_neg (List.ne_nil_of_mem hx), List.length_append]
  omega
end Go.Proofs.YtbbdfhgcmkljeaaGreatDoor.Bin
/- A reader of modules: what is written is read as it was; what is read can be written, with no more bytes. -/
set_option maxRecDepth 100000
set_option maxHeartbeats 4000000
set_option linter.unusedVariables false
set_option linter.unusedSimpArgs false
namespace Go.Proofs.YtbbdfhgcmkljeaaGreatDoor.Brd
open Go Go.Proofs.YtbbdfhgcmkljeaaGreatDoor.Eng Go.RowKit
open Ins Nest Leb Txt
open Bin (SigD FunD ModD kindE indexE sigE impE funE gloE elE datE startE placeE geE leE pagE manyE allE eachE eachE_0 allE_0 fst_eq0 numT kindsT nameT sigT impT expT gloT elT datT rle codeT secT headT tabT memT staT modT mutB opB kindsT_is OkM OkF unrle unrle_rle)
/-! ## The readers -/
def throwR (c : Prop) [Decidable c] (e : Int) : Rdr Unit := if c then failRd e else retR ()
def fixedR (b e : Int) : Rdr Unit := bindR octetR fun c => throwR (c ≠ b) e
def kindR : Rdr Int := bindR octetR fun k => bindR (throwR (kindE k ≠ 0) 6) fun _ => retR k
def rdName (s : List UInt8) : List UInt8 × Nat × Int :=
  if (rdU 32 s 0 0).2.2 ≠ 0 then ([], 0, (rdU 32 s 0 0).2.2)
  else if 16 < (rdU 32 s 0 0).1 then ([], 0, 2)
  else if s.length - (rdU 32 s 0 0).2.1 < (rdU 32 s 0 0).1 then ([], 0, 3)
  else if Lib.validD ((s.drop (rdU 32 s 0 0).2.1).take (rdU 32 s 0 0).1) = true then ((s.drop (rdU 32 s 0 0).2.1).take (rdU 32 s 0 0).1, (rdU 32 s 0 0).2.1 + (rdU 32 s 0 0).1, 0)
  else ([], 0, 4)
def nameR : Rdr (List UInt8) := fun s r => if r.bad ≠ 0 then ([], r) else ((rdName (s.drop r.at_)).1, ⟨r.at_ + (rdName (s.drop r.at_)).2.1, (rdName (s.drop r.at_)).2.2⟩)
def bodyR : Rdr (List InsD) := fun s r => if r.bad ≠ 0 then ([], r) else ((rdB (s.drop r.at_)).1, ⟨r.at_ + (rdB (s.drop r.at_)).2.1, (rdB (s.drop r.at_)).2.2⟩)
/-- So many bytes, read by p as if nothing stood behind them, all of them. -/
def subR {α : Type} (p : Rdr α) (n : Int) : Rdr α := fun s r =>
  if r.bad ≠ 0 then ((p s r).1, r)
  else if ((s.length - r.at_ : Nat) : Int) < n then ((p s r).1, ⟨r.at_, 3⟩)
  else ((p ((s.drop r.at_).take n.toNat) ⟨0, 0⟩).1, ⟨r.at_ + n.toNat, if (p ((s.drop r.at_).take n.toNat) ⟨0, 0⟩).2.bad ≠ 0 then (p ((s.drop r.at_).take n.toNat) ⟨0, 0⟩).2.bad else if (p ((s.drop r.at_).take n.toNat) ⟨0, 0⟩).2.at_ < n.toNat then 4 else 0⟩)
def pieceR {α : Type} (p : Rdr α) : Rdr α := bindR plainR fun n => subR p n
def sigR : Rdr SigD := bindR (fixedR 96 4) fun _ => bindR (listR 4 kindR) fun a => bindR (listR 1 kindR) fun b => retR ⟨a, b⟩
def hostB : List UInt8 := [104, 111, 115, 116]
def impR : Rdr (List UInt8 × Int) := bindR nameR fun h => bindR (throwR (h ≠ hostB) 6) fun _ => bindR nameR fun n => bindR (fixedR 0 6) fun _ => bindR plainR fun t => retR (n, t)
def bitsOf (k : Int) : Nat := if k = 127 then 32 else 64
def gloR : Rdr (Int × Bool × Int) := bindR kindR fun k => bindR octetR fun u => bindR (throwR (1 < u) 4) fun _ => bindR octetR fun o => bindR (throwR (o ≠ 65 ∧ o ≠ 66) 6) fun _ =>
  bindR (throwR ((o = 65) ≠ (k = 127)) 4) fun _ => bindR (signedR (bitsOf k)) fun z => bindR (fixedR 11 4) fun _ => retR (k, decide (u = 1), z)
def placeR : Rdr Int := bindR (fixedR 0 6) fun _ => bindR (fixedR 65 6) fun _ => bindR (signedR 32) fun a => bindR (fixedR 11 4) fun _ => retR a
def expR : Rdr (List UInt8 × Int) := bindR nameR fun n => bindR (fixedR 0 6) fun _ => bindR plainR fun t => retR (n, t)
def elR : Rdr (Int × List Int) := bindR placeR fun a => bindR (listR 16 plainR) fun l => retR (a, l)
def datR : Rdr (Int × List UInt8) := bindR placeR fun a => bindR (countR 64) fun n => bindR (takeR n) fun b => retR (a, b)
def locR : Nat → List Int → Rdr (List Int)
  | 0, acc => retR acc
  | n + 1, acc => bindR plainR fun c => bindR kindR fun k => bindR (throwR ((16 : Int) - acc.length < c) 2) fun _ => locR n (acc ++ List.replicate c.toNat k)
def codeR : Rdr (List Int × List InsD) := pieceR (bindR (countR 16) fun n => bindR (locR n []) fun l => bindR bodyR fun b => retR (l, b))
/-- The codes, laid into the functions, as far as there are any. -/
def setC : List FunD → List (List Int × List InsD) → List FunD
  | f :: r, c :: q => ⟨f.ty, c.1, c.2⟩ :: setC r q
  | l, _ => l
def oneTab : Rdr Nat := bindR (fixedR 112 6) fun _ => bindR (fixedR 0 6) fun _ => countR 16
def oneMem : Rdr (Int × Int) := bindR (fixedR 1 6) fun _ => bindR plainR fun p => bindR plainR fun q => bindR (throwR (8 < q) 2) fun _ => bindR (throwR (q < p) 4) fun _ => retR (p, q)
def tab1 : List Nat → Int → Int
  | [], t => t
  | n :: _, _ => (n : Int)
def pag1 : List (Int × Int) → Int → Int
  | [], t => t
  | x :: _, _ => x.1
def mos1 : List (Int × Int) → Int → Int
  | [], t => t
  | x :: _, _ => x.2
def secR (id : Int) (m : ModD) : Rdr (ModD × Nat) :=
  if id = 1 then bindR (listR 16 sigR) fun l => retR ({ m with types := m.types ++ l }, 0)
  else if id = 2 then bindR (listR 16 impR) fun l => retR ({ m with imps := m.imps ++ l }, 0)
  else if id = 3 then bindR (listR 16 plainR) fun l => retR ({ m with funcs := m.funcs ++ l.map fun t => ⟨t, [], []⟩ }, 0)
  else if id = 4 then bindR (listR 1 oneTab) fun l => retR ({ m with table := tab1 l m.table }, 0)
  else if id = 5 then bindR (listR 1 oneMem) fun l => retR ({ m with pages := pag1 l m.pages, most := mos1 l m.most }, 0)
  else if id = 6 then bindR (listR 8 gloR) fun l => retR ({ m with globals := m.globals ++ l }, 0)
  else if id = 7 then bindR (listR 8 expR) fun l => retR ({ m with exps := m.exps ++ l }, 0)
  else if id = 8 then bindR plainR fun n => bindR (throwR (4294967295 < n + 1) 4) fun _ => retR ({ m with start := n + 1 }, 0)
  else if id = 9 then bindR (listR 4 elR) fun l => retR ({ m with elems := m.elems ++ l }, 0)
  else if id = 10 then bindR (listR 16 codeR) fun l => retR ({ m with funcs := setC m.funcs l }, l.length)
  else if id = 11 then bindR (listR 4 datR) fun l => retR ({ m with data := m.data ++ l }, 0)
  else retR (m, 0)
def secsR : Nat → Int → ModD → Nat → Rdr (ModD × Nat)
  | 0, _, m, c => retR (m, c)
  | f + 1, last, m, c => fun s r => if r.bad ≠ 0 ∨ s.length ≤ r.at_ then ((m, c), r) else (bindR octetR fun id => bindR (throwR (id < 1 ∨ 11 < id) 6) fun _ => bindR (throwR (id ≤ last) 4) fun _ => bindR (pieceR (secR id m)) fun q => secsR f id q.1 (c + q.2)) s r
def m0 : ModD := ⟨[], [], [], 0, 0, 0, [], [], 0, [], []⟩
def headR : List UInt8 → Rdr Unit
  | [] => retR ()
  | b :: r => bindR (fixedR b.toNat 4) fun _ => headR r
def readR : Rdr ModD := bindR (headR headT) fun _ => bindR (secsR 12 0 m0 0) fun q => bindR (throwR (q.2 ≠ q.1.funcs.length) 4) fun _ => retR q.1
def rdM (s : List UInt8) : ModD × Int := if 4096 < s.length then (m0, 2) else if (readR s ⟨0, 0⟩).2.bad = 0 then ((readR s ⟨0, 0⟩).1, 0) else (m0, (readR s ⟨0, 0⟩).2.bad)
/-! ## What is written is read -/
def Wh {α : Type} (A : List UInt8) (p : Rdr α) (v : α) : Prop := ∀ s k rest, s.drop k = A ++ rest → p s ⟨k, 0⟩ = (v, ⟨k + A.length, 0⟩)
theorem Wh.of {α : Type} {A : List UInt8} {p : Rdr α} {v : α} (h : Tx A p v) : Wh A p v := h.whole
theorem Wh.ret {α : Type} (v : α) : Wh [] (retR v) v := fun s k rest _ => rfl
theorem Wh.bind {α β : Type} {A B : List UInt8} {p : Rdr α} {q : α → Rdr β} {v : α} {u : β} (hp : Wh A p v) (hq : Wh B (q v) u) : Wh (A ++ B) (bindR p q) u := fun s k rest h => by
  have h1 := hp s k (B ++ rest) (by rw [h, List.append_assoc])
  have h2 : s.drop (k + A.length) = B ++ rest := by rw [← List.drop_drop, h, List.append_assoc, List.drop_left]
  unfold bindR
  rw [h1]
  show q v s ⟨k + A.length, 0⟩ = _
  rw [hq s _ rest h2, List.length_append, Nat.add_assoc]
theorem Wh.bind0 {α β : Type} {B : List UInt8} {p : Rdr α} {q : α → Rdr β} {v : α} {u : β} (hp : Wh [] p v) (hq : Wh B (q v) u) : Wh B (bindR p q) u := Wh.bind (A := []) hp hq
theorem Wh.last {α β : Type} {A : List UInt8} {p : Rdr α} {q : α → Rdr β} {v : α} {u : β} (hp : Wh A p v) (hq : Wh [] (q v) u) : Wh A (bindR p q) u := by
  have := Wh.bind hp hq
  rwa [List.append_nil] at this
theorem Wh.throw {c : Prop} [Decidable c] {e : Int} (h : ¬ c) : Wh [] (throwR c e) () := by unfold throwR; rw [if_neg h]; exact Wh.ret ()
theorem Wh.octet (c : UInt8) : Wh [c] octetR (c.toNat : Int) := .of (Tx.octet c)
theorem Wh.octetN {n : Int} (h : 0 ≤ n ∧ n ≤ 255) : Wh [byt n] octetR n := by rw [byt_of h]; exact .of (Tx.octetN n h)
theorem Wh.fixed (c : UInt8) (e : Int) : Wh [c] (fixedR c.toNat e) () := Wh.last (Wh.octet c) (Wh.throw (by simp))
theorem Wh.plain {n : Int} (h : 0 ≤ n ∧ n ≤ 4294967295) : Wh (numT n) plainR n := by
  have := Wh.of (Tx.plain n.toNat (by omega))
  rwa [show ((n.toNat : Nat) : Int) = n by omega] at this
theorem Wh.count {n m : Nat} (h : n ≤ m) (hm : m < 2 ^ 32) : Wh (uleb n) (countR m) n := .of (Tx.count h hm)
theorem Wh.rep {α : Type} {f : α → List UInt8} {p : Rdr α} : ∀ (l : List α), (∀ x ∈ l, Wh (f x) p x) → Wh (l.flatMap f) (repR p l.length) l
  | [], _ => Wh.ret []
  | x :: l, h => by
    rw [List.flatMap_cons]
    exact Wh.bind (h x (List.mem_cons_self ..)) (Wh.last (Wh.rep l fun y hy => h y (List.mem_cons_of_mem _ hy)) (Wh.ret _))
theorem Wh.list {α : Type} {f : α → List UInt8} {p : Rdr α} {m : Nat} (l : List α) (h : ∀ x ∈ l, Wh (f x) p x) (hl : (l.length : Int) ≤ m) (hm : m < 2 ^ 32) : Wh (uleb l.length ++ l.flatMap f) (listR m p) l :=
  Wh.bind (Wh.count (by omega) hm) (Wh.rep l h)
theorem kind_U8 {k : Int} (h : kindE k = 0) : 0 ≤ k ∧ k ≤ 255 := by have := Bin.kindE_0 h; omega
theorem Wh.kind {k : Int} (h : kindE k = 0) : Wh [byt k] kindR k := Wh.last (Wh.octetN (kind_U8 h)) (Wh.bind0 (Wh.throw (by simpa using h)) (Wh.ret k))
theorem Wh.name {n : List UInt8} (h : nameE n = 0) : Wh (nameT n) nameR n := fun s k rest hd => by
  have h16 : n.length ≤ 16 := by have := Bin.nameE_0 h; omega
  have hv : Lib.validD n = true := by
    unfold nameE at h
    rw [if_neg (by omega)] at h
    split at h
    · assumption
    · exact absurd h (by decide)
  have hd : s.drop k = uleb n.length ++ (n ++ rest) := by rw [hd]; unfold nameT; rw [List.append_assoc]
  have hr : rdU 32 (s.drop k) 0 0 = (n.length, (uleb n.length).length, 0) := by rw [hd]; exact rdU32 _ _ (by omega)
  have e1 : (s.drop k).length - (uleb n.length).length = n.length + rest.length := by rw [hd]; simp only [List.length_append]; omega
  have e2 : ((s.drop k).drop (uleb n.length).length).take n.length = n := by rw [hd, List.drop_left, List.take_left]
  unfold nameR
  rw [if_neg (by simp)]
  have : rdName (s.drop k) = (n, (uleb n.length).length + n.length, 0) := by
    unfold rdName
    rw [hr]
    simp only
    rw [if_neg (by simp), if_neg (by omega), if_neg (by rw [e1]; omega), e2, if_pos hv]
  simp only [this]
  unfold nameT
  rw [List.length_append]
theorem Wh.body {l : List InsD} (h : chkB l = 0) (ho : opsOk l) : Wh (txtL l) bodyR l := fun s k rest hd => by
  unfold bodyR
  rw [if_neg (by simp)]
  simp only [hd, rdB_txt h ho rest]
theorem Wh.sub {α : Type} {A : List UInt8} {p : Rdr α} {v : α} (h : Wh A p v) : Wh A (subR p A.length) v := fun s k rest hd => by
  have e := h A 0 [] (by rw [List.append_nil]; rfl)
  have hl := congrArg List.length hd
  rw [List.length_drop, List.length_append] at hl
  unfold subR
  rw [if_neg (by simp), if_neg (by simp only; omega), Int.toNat_natCast]
  simp only [hd, List.take_left, e]
  simp
theorem Wh.piece {α : Type} {A : List UInt8} {p : Rdr α} {v : α} (h : Wh A p v) (hA : A.length ≤ 4294967295) : Wh (uleb A.length ++ A) (pieceR p) v := by
  have := Wh.plain (n := A.length) (by omega)
  unfold numT at this
  rw [Int.toNat_natCast] at this
  exact Wh.bind this (Wh.sub h)
theorem Wh.sig {x : SigD} (h : sigE x = 0) : Wh (sigT x) sigR x := by
  obtain ⟨h1, h2⟩ := fst_eq0.1 h
  obtain ⟨a1, a2⟩ := eachE_0.1 h1
  obtain ⟨b1, b2⟩ := eachE_0.1 h2
  unfold sigT
  rw [kindsT_is, kindsT_is, List.append_assoc]
  exact Wh.bind (Wh.fixed 96 4) (Wh.bind (Wh.list _ (fun k hk => Wh.kind (a2 k hk)) a1 (by decide)) (Wh.last (Wh.list _ (fun k hk => Wh.kind (b2 k hk)) b1 (by decide)) (Wh.ret _)))
theorem host_ok : nameE hostB = 0 := by rw [nameE, if_neg (by decide), if_pos (by decide)]
theorem Wh.imp {x : List UInt8 × Int} (h : impE x = 0) : Wh (impT x) impR x := by
  obtain ⟨h1, h2⟩ := fst_eq0.1 h
  unfold impT
  have e : ([4, 104, 111, 115, 116] : List UInt8) = nameT hostB := by
    unfold nameT; rw [uleb_lt (by decide)]; rfl
  rw [e, List.append_assoc, List.append_assoc]
  exact Wh.bind (Wh.name host_ok) (Wh.bind0 (Wh.throw (by simp)) (Wh.bind (Wh.name h1) (Wh.bind (Wh.fixed 0 6) (Wh.last (Wh.plain (Bin.indexE_0 h2)) (Wh.ret _)))))
theorem Wh.exp {x : List UInt8 × Int} (h : impE x = 0) : Wh (expT x) expR x := by
  obtain ⟨h1, h2⟩ := fst_eq0.1 h
  unfold expT
  rw [List.append_assoc]
  exact Wh.bind (Wh.name h1) (Wh.bind (Wh.fixed 0 6) (Wh.last (Wh.plain (Bin.indexE_0 h2)) (Wh.ret _)))
theorem Wh.signed {k z : Int} (h : startE k z = 0) (hz : I64 z) : Wh (sleb z) (signedR (bitsOf k)) z := by
  unfold bitsOf
  unfold startE at h
  unfold I64 at hz
  split
  · rename_i hk
    refine .of (Tx.signed32 z ?_)
    split at h
    · rename_i h3; exact h3.resolve_left fun h => h hk
    · exact absurd h (by decide)
  · exact .of (Tx.signed64 z hz)
theorem Wh.glo {x : Int × Bool × Int} (h : gloE x = 0) (hz : I64 x.2.2) : Wh (gloT x) gloR x := by
  obtain ⟨h1, h2⟩ := fst_eq0.1 h
  obtain ⟨k, b, z⟩ := x
  simp only at h1 h2 hz
  have hk := Bin.kindE_0 h1
  have e : gloT (k, b, z) = [byt k] ++ ([mutB b] ++ ([opB k] ++ (sleb z ++ [11]))) := by unfold gloT; simp
  rw [e]
  have hm : ((mutB b).toNat : Int) = if b = true then 1 else 0 := by cases b <;> rfl
  have ho : ((opB k).toNat : Int) = if k = 127 then 65 else 66 := by unfold opB; split <;> rfl
  refine Wh.bind (Wh.kind h1) (Wh.bind (Wh.octet (mutB b)) (Wh.bind0 (Wh.throw ?_) (Wh.bind (Wh.octet (opB k)) (Wh.bind0 (Wh.throw ?_) (Wh.bind0 (Wh.throw ?_) (Wh.bind (Wh.signed h2 hz) (Wh.last (Wh.fixed 11 4) ?_)))))))
  · rw [hm]; split <;> omega
  · rw [ho]; split <;> omega
  · rw [ho]; split <;> simp_all
  · have : decide (((mutB b).toNat : Int) = 1) = b := by rw [hm]; cases b <;> simp
    rw [this]; exact Wh.ret _
theorem Wh.place {a : Int} (h : placeE a = 0) : Wh ([0, 65] ++ sleb a ++ [11]) placeR a := by
  have h := Bin.placeE_0 h
  rw [show ([0, 65] ++ sleb a ++ [11] : List UInt8) = [0] ++ ([65] ++ (sleb a ++ [11])) by simp]
  exact Wh.bind (Wh.fixed 0 6) (Wh.bind (Wh.fixed 65 6) (Wh.bind (.of (Tx.signed32 a (by omega))) (Wh.last (Wh.fixed 11 4) (Wh.ret _))))
theorem Wh.el {x : Int × List Int} (h : elE x = 0) : Wh (elT x) elR x := by
  obtain ⟨h1, h2⟩ := fst_eq0.1 h
  obtain ⟨a1, a2⟩ := eachE_0.1 h2
  unfold elT
  rw [List.append_assoc]
  exact Wh.bind (Wh.place h1) (Wh.last (Wh.list _ (fun n hn => Wh.plain (Bin.indexE_0 (a2 n hn))) a1 (by decide)) (Wh.ret _))
theorem Wh.dat {x : Int × List UInt8} (h : datE x = 0) : Wh (datT x) datR x := by
  obtain ⟨h1, h2⟩ := fst_eq0.1 h
  have hl : x.2.length ≤ 64 := by
    unfold manyE at h2
    split at h2
    · omega
    · exact absurd h2 (by decide)
  unfold datT
  rw [List.append_assoc]
  exact Wh.bind (Wh.place h1) (Wh.bind (Wh.count hl (by decide)) (Wh.last (.of (Tx.take x.2)) (Wh.ret _)))
theorem Wh.loc : ∀ (l : List (Nat × Int)) (acc : List Int), (∀ x ∈ l, kindE x.2 = 0) → acc.length + (unrle l).length ≤ 16 → Wh (l.flatMap Bin.runT) (locR l.length acc) (acc ++ unrle l)
  | [], acc, _, _ => by rw [show acc ++ unrle [] = acc by simp [unrle]]; exact Wh.ret _
  | (n, k) :: l, acc, hk, hl => by
    have e : unrle ((n, k) :: l) = List.replicate n k ++ unrle l := rfl
    rw [e, List.length_append, List.length_replicate] at hl
    rw [e, List.flatMap_cons, ← List.append_assoc acc]
    have h1 := Wh.plain (n := (n : Int)) (by omega)
    unfold numT at h1
    rw [Int.toNat_natCast] at h1
    show Wh ((uleb n ++ [byt k]) ++ _) _ _
    rw [List.append_assoc]
    refine Wh.bind h1 (Wh.bind (Wh.kind (hk (n, k) (List.mem_cons_self ..))) (Wh.bind0 (Wh.throw (by omega)) ?_))
    rw [Int.toNat_natCast]
    exact Wh.loc l (acc ++ List.replicate n k) (fun x hx => hk x (List.mem_cons_of_mem _ hx)) (by rw [List.length_append, List.length_replicate]; omega)
theorem rle_kind {l : List Int} {x : Nat × Int} (hx : x ∈ rle l) : x.2 ∈ l := by
  induction l with
  | nil => cases hx
  | cons y r ih =>
    rw [rle] at hx
    split at hx
    · rcases List.mem_cons.1 hx with rfl | h
      · exact List.mem_cons_self ..
      · cases h
    · rename_i n z q hr
      rw [hr] at ih
      split at hx
      · rename_i hyz
        rcases List.mem_cons.1 hx with rfl | h
        · rw [← hyz]; exact List.mem_cons_self ..
        · exact List.mem_cons_of_mem _ (ih (List.mem_cons_of_mem _ h))
      · rcases List.mem_cons.1 hx with rfl | h
        · exact List.mem_cons_self ..
        · exact List.mem_cons_of_mem _ (ih h)
theorem Wh.code {f : FunD} (h : funE f = 0) (ho : opsOk f.body) (hl : (Bin.allT f).length ≤ 4294967295) : Wh (codeT f) codeR (f.loc, f.body) := by
  obtain ⟨_, h⟩ := fst_eq0.1 h
  obtain ⟨h1, h2⟩ := fst_eq0.1 h
  obtain ⟨a1, a2⟩ := eachE_0.1 h1
  have hr := Bin.rle_len f.loc
  unfold codeT
  refine Wh.piece ?_ hl
  unfold Bin.allT
  rw [List.append_assoc]
  refine Wh.bind (Wh.count (by omega) (by decide)) (Wh.bind ?_ (Wh.last (Wh.body h2 ho) (Wh.ret _)))
  have := Wh.loc (rle f.loc) [] (fun x hx => a2 _ (rle_kind hx)) (by rw [unrle_rle, List.length_nil]; omega)
  rwa [List.nil_append, unrle_rle] at this
theorem Wh.head : ∀ l : List UInt8, Wh l (headR l) ()
  | [] => Wh.ret ()
  | b :: r => Wh.bind (A := [b]) (Wh.fixed b 4) (Wh.head r)
theorem sec1 (m : ModD) : secR 1 m = bindR (listR 16 sigR) fun l => retR ({ m with types := m.types ++ l }, 0) := rfl
theorem sec2 (m : ModD) : secR 2 m = bindR (listR 16 impR) fun l => retR ({ m with imps := m.imps ++ l }, 0) := rfl
theorem sec3 (m : ModD) : secR 3 m = bindR (listR 16 plainR) fun l => retR ({ m with funcs := m.funcs ++ l.map fun t => ⟨t, [], []⟩ }, 0) := rfl
theorem sec4 (m : ModD) : secR 4 m = bindR (listR 1 oneTab) fun l => retR ({ m with table := tab1 l m.table }, 0) := rfl
theorem sec5 (m : ModD) : secR 5 m = bindR (listR 1 oneMem) fun l => retR ({ m with pages := pag1 l m.pages, most := mos1 l m.most }, 0) := rfl
theorem sec6 (m : ModD) : secR 6 m = bindR (listR 8 gloR) fun l => retR ({ m with globals := m.globals ++ l }, 0) := rfl
theorem sec7 (m : ModD) : secR 7 m = bindR (listR 8 expR) fun l => retR ({ m with exps := m.exps ++ l }, 0) := rfl
theorem sec8 (m : ModD) : secR 8 m = bindR plainR fun n => bindR (throwR (4294967295 < n + 1) 4) fun _ => retR ({ m with start := n + 1 }, 0) := rfl
theorem sec9 (m : ModD) : secR 9 m = bindR (listR 4 elR) fun l => retR ({ m with elems := m.elems ++ l }, 0) := rfl
theorem sec10 (m : ModD) : secR 10 m = bindR (listR 16 codeR) fun l => retR ({ m with funcs := setC m.funcs l }, l.length) := rfl
theorem sec11 (m : ModD) : secR 11 m = bindR (listR 4 datR) fun l => retR ({ m with data := m.data ++ l }, 0) := rfl
end Go.Proofs.YtbbdfhgcmkljeaaGreatDoor.Brd
