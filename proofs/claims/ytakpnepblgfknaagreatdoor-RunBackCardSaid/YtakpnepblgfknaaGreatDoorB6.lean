/- Texts of this claim, one behind the other. -/
import Derived.Shelf.Unicode.ValidAny
import Derived.Ground.NamesProg
import Derived.Test.YtakpnepblgfknaaGreatDoorProg
import Derived.Test.YtakpnepblgfknaaGreatDoorB2
import Derived.Test.YtakpnepblgfknaaGreatDoorB3
set_option maxRecDepth 100000
set_option maxHeartbeats 4000000
set_option linter.unusedVariables false
set_option linter.unusedSimpArgs false
set_option linter.defProp false
namespace Go.Proofs
open Go.Shelf
def Tryz.WL : Go.Shelf.Ren := ⟨fun | 196 => 233 | 259 => 253 | n => n, fun | 9 => 9 | 4 => 4 | 3 => 3 | 5 => 5 | 12 => 12 | 119 => 222 | 0 => 0 | 46 => 266 | 139 => 344 | 138 => 343 | 53 => 226 | n => n, fun | 3 => 0 | 4 => 1 | n => n⟩
theorem Tryz.acG : Go.Proofs.Lays.n196 Tryz.prog Tryz.WL := {
 mixed := by kernel_rfl
 f196 := Tryz.func233.trans (congrArg some (by kernel_rfl))
 f259 := Tryz.func253.trans (congrArg some (by kernel_rfl))
 t0 := Tryz.underlying0
 a0 := Tryz.isAgg0
 z0 := Tryz.sizeOf0
 v0 := Tryz.zeroValue0
 t3 := Tryz.underlying3
 a3 := Tryz.isAgg3
 z3 := Tryz.sizeOf3
 v3 := Tryz.zeroValue3
 t4 := Tryz.underlying4
 a4 := Tryz.isAgg4
 z4 := Tryz.sizeOf4
 v4 := Tryz.zeroValue4
 t5 := Tryz.underlying5
 a5 := Tryz.isAgg5
 z5 := Tryz.sizeOf5
 v5 := Tryz.zeroValue5
 t9 := Tryz.underlying9
 a9 := Tryz.isAgg9
 z9 := Tryz.sizeOf9
 v9 := Tryz.zeroValue9
 t12 := Tryz.underlying12
 a12 := Tryz.isAgg12
 z12 := Tryz.sizeOf12
 v12 := Tryz.zeroValue12
 t46 := Tryz.underlying266
 a46 := Tryz.isAgg266
 z46 := Tryz.sizeOf266
 v46 := Tryz.zeroValue266
 t53 := Tryz.underlying226
 a53 := Tryz.isAgg226
 z53 := Tryz.sizeOf226
 v53 := Tryz.zeroValue226
 t119 := Tryz.underlying222
 a119 := Tryz.isAgg222
 z119 := Tryz.sizeOf222
 t138 := Tryz.underlying343
 a138 := Tryz.isAgg343
 z138 := Tryz.sizeOf343
 v138 := Tryz.zeroValue343
 t139 := Tryz.underlying344
 a139 := Tryz.isAgg344
 z139 := Tryz.sizeOf344
 v139 := Tryz.zeroValue344
 g3 := by kernel_rfl
 g4 := by kernel_rfl }
open Go.RowKit Go.Lib in
theorem Tryz.utf8_ValidString (s : ByteArray) (w : World) (hs : s.size ≤ 9223372036854775807) (hT : Lib.Utf8Tabs (Tryz.WL.g 3) (Tryz.WL.g 4) w) :
  Calls Tryz.prog (Tryz.WL.f 196) #[.string s] w fun e w' => e = .returned (.bool (Lib.validD s.data.toList)) ∧ Below w.heap.size w w' := Any.utf8_ValidString Tryz.acG s w hs hT
end Go.Proofs
namespace Go.Proofs.YtakpnepblgfknaaGreatDoor.X7
open Go YW Go.RowKit
section
variable {g:Zy} {w:World} {l:List As}
def Oq (g:Zy):Prop:=∀(w:World) (l:List As),Sat g w l→Lib.Utf8Tabs (Tryz.WL.g 3) (Tryz.WL.g 4) w
theorem agB (s:List UInt8):(bs s).data.toList=s:=by grind [bs]
theorem aak (H:Sat g w l) (hT:Oq g) (s:List UInt8) (hs:s.length≤9223372036854775807):Fc Tryz.prog 233 #[.string (bs s)] w (fun v w'=>∃b,v=.bool b∧b=Lib.validD s∧Sat g w' l):=by
 refine Fc.LD Tryz.func233 rfl k_d<|(Tryz.utf8_ValidString (bs s) w (by grind [TG]) (hT w l H)).mono ?_
 rintro e w' ⟨rfl,hb⟩
 exact ⟨_,rfl,_,rfl,by rw [agB],H.below hb⟩
def PO (s:List UInt8):Int:=if 16<s.length then 2 else if Lib.validD s=true then 0 else 4
theorem name (H:Sat g w l) (hT:Oq g) (s:List UInt8) (hs:s.length≤9223372036854775807):Fc Tryz.prog 207 #[.string (bs s)] w (fun v w'=>∃t e,v=.tuple #[.string (bs t),AB e]∧e=PO s∧t=(if PO s=0 then W6 s.length++s else [])∧t.length≤30∧Sat g w' l):=by
 refine Fc.of Tryz.func207 rfl k_d ?_
 by_cases Ey:16<s.length
 ·have hE:PO s=2:=if_pos Ey
  rw [hE,if_neg (by decide)]
  refine bk<|XH rfl<|cT (Zi AH)<|Z6.mk ?_
  refine ⟨[],2,?_⟩
  refine ⟨rfl,?_⟩
  refine ⟨AH,?_⟩
  refine ⟨rfl,?_⟩
  refine ⟨?_,?_⟩
  ·grind
  exact H
 ·cases hv:Lib.validD s
  ·have hE:PO s=4:=by grind [PO]
   rw [hE,if_neg (by decide)]
   refine bk<|XH rfl<|cF (Zt AH) ?_
   refine Z7.mk (Fc.imp (X7.aak H AH _ AH) ?_)
   clear H
   rintro _ w1 ⟨b1,⟨rfl,⟨h1,H⟩⟩⟩
   rw [hv] at h1
   subst h1
   refine cT rfl<|Z6.mk ?_
   refine ⟨[],4,?_⟩
   refine ⟨rfl,?_⟩
   refine ⟨AH,?_⟩
   refine ⟨rfl,?_⟩
   refine ⟨?_,?_⟩
   ·grind
   exact H
  ·have hE:PO s=0:=by grind [PO]
   rw [hE,if_pos rfl]
   refine bk<|XH rfl<|cF (Zt AH) ?_
   refine Z7.mk (Fc.imp (X7.aak H AH _ AH) ?_)
   clear H
   rintro _ w1 ⟨b1,⟨rfl,⟨h1,H⟩⟩⟩
   rw [hv] at h1
   subst h1
   refine cF rfl<|XH rfl<|PX AH rfl rfl ?_
   refine Z7.mk (Fc.imp (X7.U _ (s.length) AH AH _) ?_)
   rintro _ w2 ⟨l1,⟨rfl,⟨h1,⟨h2,H'⟩⟩⟩⟩
   refine H.Yj H' ?_
   clear H H'
   intro H
   refine amu AH<|Z6.mk ?_
   refine ⟨l1++s,0,?_⟩
   refine ⟨rfl,?_⟩
   refine ⟨AH,?_⟩
   refine ⟨?_,?_⟩
   ·grind
   refine ⟨?_,?_⟩
   ·grind
   exact H
end
end Go.Proofs.YtakpnepblgfknaaGreatDoor.X7
namespace Go.Proofs.YtakpnepblgfknaaGreatDoor.YN
open Go YW Go.RowKit
open YU Zm X7
def fst (a b:Int):Int:=if a=0 then b else a
theorem WK (b:Int):fst 0 b=b:=if_pos rfl
theorem Te {a:Int} (b:Int) (h:a≠0):fst a b=a:=if_neg h
theorem akF (a:Int):fst a 0=a:=by grind [fst]
theorem Vv (a b c:Int):fst (fst a b) c=fst a (fst b c):=by grind [fst]
theorem Zl {a b:Int}:fst a b=0↔a=0∧b=0:=by grind [fst]
def FE (b e c:Int):Prop:=c=fst b e
theorem FE.eq {b e c:Int} (h:FE b e c):c=fst b e:=h
theorem FE.two {b c d e f:Int} (h:FE b e c) (h':FE c f d):FE b (fst e f) d:=by grind [FE,Vv]
def Tw (k:Int):Int:=if k=127∨k=126 then 0 else 1
def UP (n:Int):Int:=if 0≤n∧n≤4294967295 then 0 else 1
def OS (n:Int):Int:=if -2147483648≤n∧n≤2147483647 then 0 else 1
def Yt {α:Type} (f:α→Int):List α→Int
 | []=>0
 | x::r=>fst (f x) (Yt f r)
def Me (n:Nat) (m:Int):Int:=if (n:Int)≤m then 0 else 2
def Yu {α:Type} (m:Int) (f:α→Int) (l:List α):Int:=fst (Me l.length m) (Yt f l)
theorem PN {α β:Type} (f:β→Int) (d:α→β) (l:List α):Yt f (l.map d)=Yt (fun x=>f (d x)) l:=by
 induction l with
 | nil=>rfl
 | cons x r ih=>rw [lfb,Yt,Yt,ih]
theorem aaG {α β:Type} (m:Int) (f:β→Int) (d:α→β) (l:List α):Yu m f (l.map d)=Yu m (fun x=>f (d x)) l:=by grind [Yu,PN,List.length_map]
theorem Vd {α:Type} {f:α→Int} {l:List α}:Yt f l=0↔∀x∈l,f x=0:=by
 induction l with
 | nil=>simp [Yt]
 | cons x r ih=>rw [Yt,Zl,ih];simp
theorem VV {α:Type} {m:Int} {f:α→Int} {l:List α}:Yu m f l=0↔(l.length:Int)≤m∧∀x∈l,f x=0:=by
 unfold Yu Me
 rw [Zl,Vd]
 by_cases h:(l.length:Int)≤m
 ·simp
 ·omega
structure XL where
 Zd:List Int
 out:List Int
structure PM where
 ty:Int
 loc:List Int
 body:List ZT
structure YS where
 types:List XL
 ZA:List (List UInt8 × Int)
 funcs:List PM
 table:Int
 pages:Int
 most:Int
 globals:List (Int × Bool × Int)
 Wa:List (List UInt8 × Int)
 start:Int
 elems:List (Int × List Int)
 data:List (Int × List UInt8)
def Jv (s:XL):Int:=fst (Yu 4 Tw s.Zd) (Yu 1 Tw s.out)
def PL (x:List UInt8 × Int):Int:=fst (PO x.1) (UP x.2)
def Ln (f:PM):Int:=fst (UP f.ty) (fst (Yu 16 Tw f.loc) (Ym f.body))
def OR (k n:Int):Int:=if k≠127∨(-2147483648≤n∧n≤2147483647) then 0 else 1
def Mv (x:Int × Bool × Int):Int:=fst (Tw x.1) (OR x.1 x.2.2)
def Gf (x:Int × List Int):Int:=fst (OS x.1) (Yu 16 UP x.2)
def Mu (x:Int × List UInt8):Int:=fst (OS x.1) (Me x.2.length 64)
def DI (a b:Int):Int:=if a≤b then 0 else 1
def Kh (p m:Int):Int:=if 0≤p∧p≤m then 0 else 1
def DH (a b:Int):Int:=if a≤b then 0 else 2
def OQ (m:YS):Int :=
 fst (Yu 16 Jv m.types) (fst (Yu 16 PL m.ZA) (fst (Yu 16 Ln m.funcs) (fst (DI 0 m.table) (fst (DH m.table 16) (fst (Kh m.pages m.most) (fst (DH m.most 8)
  (fst (Yu 8 Mv m.globals) (fst (Yu 8 PL m.Wa) (fst (UP m.start) (fst (Yu 4 Gf m.elems) (Yu 4 Mu m.data)))))))))))
structure Xy where
 vi:Value
 Zd:List Int
 vo:Value
 out:List Int
structure YE where
 ty:Int
 vl:Value
 loc:List Int
 vb:Value
 body:List Y7
structure Sq where
 pl:Int
 vf:Value
 fs:List Int
structure Zg where
 vt:Value
 types:List Xy
 vm:Value
 ZA:List (List UInt8 × Int)
 vf:Value
 funcs:List YE
 table:Int
 pages:Int
 most:Int
 vg:Value
 globals:List (Int × Bool × Int)
 vx:Value
 Wa:List (List UInt8 × Int)
 start:Int
 ve:Value
 elems:List Sq
 vd:Value
 data:List (Int × List UInt8)
abbrev AE (m:Zg) (r:List Go.Value):List Go.Value:=m.vt::m.vm::m.vf::.int .i64 m.table::.int .i64 m.pages::.int .i64 m.most::m.vg::m.vx::.int .i64 m.start::m.ve::m.vd::r
def Xy.d (x:Xy):XL:=⟨x.Zd,x.out⟩
def YE.d (x:YE):PM:=⟨x.ty,x.loc,x.body.map Y7.d⟩
def Sq.d (x:Sq):Int × List Int:=(x.pl,x.fs)
def Zg.d (m:Zg):YS:=⟨m.types.map Xy.d,m.ZA,m.funcs.map YE.d,m.table,m.pages,m.most,m.globals,m.Wa,m.start,m.elems.map Sq.d,m.data⟩
def OP (x:Xy):List Value:=[x.vi,x.vo]
def TY (x:List UInt8 × Int):List Value:=[.string (bs x.1),.int .i64 x.2]
def OO (x:YE):List Value:=[.int .i64 x.ty,x.vl,x.vb]
def Ok (x:Int × Bool × Int):List Value:=[.int .u8 x.1,.bool x.2.1,.int .i64 x.2.2]
def Ge (x:Sq):List Value:=[.int .i64 x.pl,x.vf]
def Ik (x:Int × List UInt8):List Value:=[.int .i64 x.1,.string (bs x.2)]
def amX (m:Zg):List Value:=(AE m [])
structure Wq (g:Zy) (x:Xy):Prop where
 Zd:Z0 g YH U8 1 x.vi x.Zd
 out:Z0 g YH U8 1 x.vo x.out
structure RO (x:List UInt8 × Int):Prop where
 name:x.1.length≤9223372036854775807
 ty:Xw x.2
structure UF (g:Zy) (x:YE):Prop where
 ty:Xw x.ty
 loc:Z0 g YH U8 1 x.vl x.loc
 body:Z0 g JT (okV g) 4 x.vb x.body
structure Lm (x:Int × Bool × Int):Prop where
 kind:U8 x.1
 start:Xw x.2.2
structure Mt (g:Zy) (x:Sq):Prop where
 pl:Xw x.pl
 fs:Z0 g ZE Xz 1 x.vf x.fs
structure Ju (x:Int × List UInt8):Prop where
 pl:Xw x.1
 bytes:x.2.length≤9223372036854775807
structure XV (g:Zy) (m:Zg):Prop where
 types:Z0 g OP (Wq g) 2 m.vt m.types
 ZA:Z0 g TY RO 2 m.vm m.ZA
 funcs:Z0 g OO (UF g) 3 m.vf m.funcs
 table:Xw m.table
 pages:Xw m.pages
 most:Xw m.most
 globals:Z0 g Ok Lm 3 m.vg m.globals
 Wa:Z0 g TY RO 2 m.vx m.Wa
 start:Xw m.start
 elems:Z0 g Ge (Mt g) 2 m.ve m.elems
 data:Z0 g Ik Ju 2 m.vd m.data
end Go.Proofs.YtakpnepblgfknaaGreatDoor.YN
namespace Go.Proofs.YtakpnepblgfknaaGreatDoor.YN
open Go YW Go.RowKit
open YU Zm X7
section
variable {g:Zy} {w:World} {l:List As} {pc q:Nat} {b:Int}
theorem isKind (k:Int) (w:World):Fc Tryz.prog 211 #[.int .u8 k] w (fun v w'=>(∃r,v=.bool r∧(r=true↔k=127∨k=126))∧Sat (WC w) w' []):=by
 refine Fc.of Tryz.func211 rfl k_d ?_
 have H:=Sat.start w
 refine br (fun c1=>?_) (fun c1=>?_)
 ·replace c1:=ZR (c1)
  refine Z6.mk ?_
  refine ⟨?_,?_⟩
  ·grind
  exact H
 replace c1:=ZQ (c1)
 refine Z6.mk ?_
 refine ⟨?_,?_⟩
 ·grind [Y1]
 exact H
theorem TA (n:Int) (w:World):Fc Tryz.prog 209 #[AB n] w (fun v w'=>(∃r,v=.bool r∧(r=true↔0≤n∧n≤4294967295))∧Sat (WC w) w' []):=by
 refine Fc.of Tryz.func209 rfl k_d ?_
 have H:=Sat.start w
 refine br (fun c1=>?_) (fun c1=>?_)
 ·replace c1:=XC (c1)
  refine Z6.mk ?_
  refine ⟨?_,?_⟩
  ·grind [YT]
  exact H
 replace c1:=XB (c1)
 refine Z6.mk ?_
 refine ⟨?_,?_⟩
 ·grind
 exact H
theorem agC (n:Int) (hn:Xw n) (w:World):Fc Tryz.prog 213 #[AB n] w (fun v w'=>(∃r,v=.bool r∧(r=true↔-2147483648≤n∧n≤2147483647))∧Sat (WC w) w' []):=by
 refine Fc.of Tryz.func213 rfl k_d ?_
 have H:=Sat.start w
 refine Zq rfl rfl<|Zq rfl rfl<|Z6.mk ?_
 refine ⟨?_,?_⟩
 ·refine ⟨LX n (ZO IntKind.i64 (ZO IntKind.i32 n)),?_⟩
  refine ⟨rfl,?_⟩
  exact Lz hn
 exact H
def MH (r:Bool) (e:Int):Int:=if r=true then 0 else e
theorem nd1 {r:Bool} {e:Int} (h:b≠0):FE b (MH r e) b:=(Te _ h).symm
theorem nd2 {r:Bool} {e:Int} (h:b=0) (hr:r=true):FE b (MH r e) b:=by subst h;subst hr;rfl
theorem nd3 {r:Bool} {e:Int} (h:b=0) (hr:r=false):FE b (MH r e) e:=by subst h;subst hr;rfl
theorem need (H:Sat g w (Pt pc [AB b] 269::l)) (r:Bool) (e:Int):Fc Tryz.prog 179 #[AA pc,.bool r,AB e] w (fun _ w'=>∃c,FE b (MH r e) c∧Sat g w' (Pt pc [AB c] 269::l)):=by
 refine Fc.of Tryz.func179 rfl k_d<|Z9 rfl<|Z5 (H.at 0 rfl) 0 rfl rfl rfl ?_
 refine br (fun c1=>?_) (fun c1=>?_)
 ·replace c1:=ZR (c1)
  refine cI (fun c2=>?_) (fun c2=>?_)
  ·replace c2:=TD (c2)
   refine Z9 rfl<|XS H 0 rfl rfl rfl rfl<|fun w1 H=>Z6.mk ?_
   refine ⟨e,?_⟩
   refine ⟨?_,?_⟩
   ·exact nd3 AH AG
   exact H
  replace c2:=TC (c2)
  refine Z6.mk ?_
  refine ⟨b,?_⟩
  refine ⟨?_,?_⟩
  ·exact nd2 AH AG
  exact H
 replace c1:=ZQ (c1)
 refine cF rfl<|Z6.mk ?_
 refine ⟨b,?_⟩
 refine ⟨?_,?_⟩
 ·exact nd1 AH
 exact H
theorem fe0 {e:Int} (h:b=0):FE b e e:=by subst h;exact (WK _).symm
theorem amY (H:Sat g w (Pt pc [AB b] 269::l)) (e:Int):Fc Tryz.prog 208 #[AA pc,AB e] w (fun _ w'=>∃c,FE b e c∧Sat g w' (Pt pc [AB c] 269::l)):=by
 refine Fc.of Tryz.func208 rfl k_d<|Z9 rfl<|Z5 (H.at 0 rfl) 0 rfl rfl rfl ?_
 refine cI (fun c1=>?_) (fun c1=>?_)
 ·replace c1:=ZR (c1)
  refine Z9 rfl<|XS H 0 rfl rfl rfl rfl<|fun w1 H=>Z6.mk ?_
  refine ⟨e,?_⟩
  refine ⟨?_,?_⟩
  ·exact fe0 AG
  exact H
 replace c1:=ZQ (c1)
 refine Z6.mk ?_
 refine ⟨b,?_⟩
 refine ⟨?_,?_⟩
 ·exact (Te _ AH).symm
 exact H
theorem HD {r:Bool} {p:Prop} [Decidable p] {e c:Int} (hr:r=true↔p) (h:FE b (MH r e) c):FE b (if p then 0 else e) c:=by grind [FE,MH]
theorem kind (H:Sat g w (Pt pc [AB b] 269::l)) (k:Int):Fc Tryz.prog 182 #[AA pc,.int .u8 k] w (fun _ w'=>∃c,FE b (Tw k) c∧Sat g w' (Pt pc [AB c] 269::l)):=by
 refine Fc.of Tryz.func182 rfl k_d ?_
 refine Z7.mk (Fc.imp (YN.isKind _ _) ?_)
 rintro _ w1 ⟨⟨r1,⟨rfl,h1⟩⟩,H'⟩
 refine H.Yj H' ?_
 clear H H'
 intro H
 refine Z7.mk (Fc.imp (YN.need H _ _) ?_)
 clear H
 rintro v' w2 ⟨c1,⟨h2,H⟩⟩
 refine Z6.mk ?_
 refine ⟨c1,?_⟩
 refine ⟨?_,?_⟩
 ·exact HD AG AG
 exact H
theorem index (H:Sat g w (Pt pc [AB b] 269::l)) (n:Int):Fc Tryz.prog 176 #[AA pc,AB n] w (fun _ w'=>∃c,FE b (UP n) c∧Sat g w' (Pt pc [AB c] 269::l)):=by
 refine Fc.of Tryz.func176 rfl k_d ?_
 refine Z7.mk (Fc.imp (YN.TA _ _) ?_)
 rintro _ w1 ⟨⟨r1,⟨rfl,h1⟩⟩,H'⟩
 refine H.Yj H' ?_
 clear H H'
 intro H
 refine Z7.mk (Fc.imp (YN.need H _ _) ?_)
 clear H
 rintro v' w2 ⟨c1,⟨h2,H⟩⟩
 refine Z6.mk ?_
 refine ⟨c1,?_⟩
 refine ⟨?_,?_⟩
 ·exact HD AG AG
 exact H
theorem place (H:Sat g w (Pt pc [AB b] 269::l)) (n:Int) (hn:Xw n):Fc Tryz.prog 189 #[AA pc,AB n] w (fun _ w'=>∃c,FE b (OS n) c∧Sat g w' (Pt pc [AB c] 269::l)):=by
 refine Fc.of Tryz.func189 rfl k_d ?_
 refine Z7.mk (Fc.imp (YN.agC _ AG _) ?_)
 rintro _ w1 ⟨⟨r1,⟨rfl,h1⟩⟩,H'⟩
 refine H.Yj H' ?_
 clear H H'
 intro H
 refine Z7.mk (Fc.imp (YN.need H _ _) ?_)
 clear H
 rintro v' w2 ⟨c1,⟨h2,H⟩⟩
 refine Z6.mk ?_
 refine ⟨c1,?_⟩
 refine ⟨?_,?_⟩
 ·exact HD AG AG
 exact H
theorem named (H:Sat g w (Pt pc [AB b] 269::l)) (hT:Oq g) (s:List UInt8) (hs:s.length≤9223372036854775807):Fc Tryz.prog 175 #[AA pc,.string (bs s)] w (fun _ w'=>∃c,FE b (PO s) c∧Sat g w' (Pt pc [AB c] 269::l)):=by
 refine Fc.of Tryz.func175 rfl k_d ?_
 refine Z7.mk (Fc.imp (X7.name H AH _ AH) ?_)
 clear H
 rintro _ w1 ⟨t1,⟨e1,⟨rfl,⟨h1,⟨h2,⟨h3,H⟩⟩⟩⟩⟩⟩
 refine Z7.mk (Fc.imp (YN.amY H _) ?_)
 clear H
 rintro v' w2 ⟨c1,⟨h4,H⟩⟩
 refine Z6.mk ?_
 refine ⟨c1,?_⟩
 refine ⟨?_,?_⟩
 ·grind
 exact H
theorem Kg {a m:Int}:MH (JX a m) 2=(if a≤m then 0 else 2):=by
 unfold MH
 by_cases h:a≤m
 ·rw [if_pos (by grind [YT]),if_pos h]
 ·rw [if_neg (by grind [YT]),if_neg h]
theorem gl1 {x:Int × Bool × Int} {c d:Int} (h1:FE b (Tw x.1) c) (h:x.1≠127) (h2:FE c (MH true 1) d):FE b (Mv x) d:=by
 refine FE.two h1 ?_
 have e:OR x.1 x.2.2=0:=if_pos (.inl h)
 rw [e];exact h2
theorem gl2 {x:Int × Bool × Int} {c d:Int} (hx:Xw x.2.2) (h1:FE b (Tw x.1) c) (h:x.1=127) (h2:FE c (MH (LX x.2.2 (ZO .i64 (ZO .i32 x.2.2))) 1) d):FE b (Mv x) d:=by
 refine FE.two h1 ?_
 have e:OR x.1 x.2.2=MH (LX x.2.2 (ZO .i64 (ZO .i32 x.2.2))) 1:=by
  unfold OR MH
  by_cases hh:-2147483648≤x.2.2∧x.2.2≤2147483647
  ·rw [if_pos (.inr hh),if_pos ((Lz hx).2 hh)]
  ·rw [if_neg (fun k=>k.elim (fun k=>k h) hh),if_neg (fun k=>hh ((Lz hx).1 k))]
 rw [e];exact h2
theorem dt1 {x:Int × List UInt8} {c d:Int} (h1:FE b (OS x.1) c) (h2:FE c (MH (JX x.2.length 64) 2) d):FE b (Mu x) d:=by
 refine FE.two h1 ?_
 rw [Kg] at h2;exact h2
theorem Gd {α:Type} {f:α→Int} {m:Int} {xs:List α} {c:Int} (h:FE b (MH (JX xs.length m) 2) c):fst c (Yt f (xs.drop 0))=fst b (Yu m f xs):=by
 unfold FE at h;subst h
 have:MH (JX xs.length m) 2=Me xs.length m:=by
  unfold MH Me
  by_cases h:(xs.length:Int)≤m
  ·rw [if_pos (by grind [YT]),if_pos h]
  ·rw [if_neg (by grind [YT]),if_neg h]
 rw [this,Vv,lnb];rfl
theorem Gc {α:Type} {f:α→Int} {m:Int} {xs:List α} {c:Int} {i:Nat} (hi:xs.length≤i) (h:fst c (Yt f (xs.drop i))=fst b (Yu m f xs)):FE b (Yu m f xs) c:=by
 rw [lwa hi] at h
 exact (akF c).symm.trans h
theorem Gb {α:Type} {f:α→Int} {m:Int} {xs:List α} {c:Int} {i:Nat} (hc:c≠0) (h:fst c (Yt f (xs.drop i))=fst b (Yu m f xs)):FE b (Yu m f xs) c:=by
 rw [Te _ hc] at h;exact h
theorem Ga {α:Type} {f:α→Int} {m:Int} {xs:List α} {c d:Int} {i:Nat} {a:α} (hx:xs[i]?=some a) (hd:FE c (f a) d) (h:fst c (Yt f (xs.drop i))=fst b (Yu m f xs)):fst d (Yt f (xs.drop (i+1)))=fst b (Yu m f xs):=by grind [FE,List.drop_eq_getElem_cons,Yt,Vv]
theorem HC (H:Sat g w (Pt pc [AB b] 269::l)) (m:Int) (v:Value) (xs:List Int) (hx:Z0 g YH U8 1 v xs):Fc Tryz.prog 206 #[AA pc,v,AB m,.func (.func 182) #[AA pc] #[]] w (fun _ w'=>∃c,FE b (Yu m Tw xs) c∧Sat g w' (Pt pc [AB c] 269::l)):=by
 refine Fc.of Tryz.func206 rfl k_d ?_
 have hbd:=VY.len hx
 refine ZF hx rfl ?_
 refine Z7.mk (Fc.imp (YN.need H _ _) ?_)
 clear H
 rintro v' w1 ⟨c1,⟨h1,H⟩⟩
 refine ZF hx rfl ?_
 refine Y9.rule (α:=Nat × Int) (0,c1) (fun x_=>[(18,AB x_.1)]) (fun x_ w_=>(x_.1≤xs.length)∧(fst x_.2 (Yt Tw (xs.drop x_.1))=fst b (Yu m Tw xs))∧Sat g w_ ((Pt pc [AB x_.2] 269::l))) (fun x_=>xs.length-x_.1) ?_ ?_ ?_
 ·exact k_a
 ·try simp only
  refine ⟨AH,?_⟩
  refine ⟨?_,?_⟩
  ·exact Gd AG
  exact H
 clear H
 rintro ⟨i,d⟩ f_ w_ ⟨hi,hb,H⟩
 try simp only at hi hb H ⊢
 refine cI (fun c2=>?_) (fun c2=>?_)
 ·replace c2:=YQ (c2)
  refine bk ?_
  obtain ⟨x1,hx1⟩:∃x,(xs)[(i)]?=some x:=⟨_,laa AH⟩
  obtain ⟨b1,o1,E1,F1,ZL⟩:=Z0.Zf hx hx1
  refine ZK E1 rfl rfl rfl<|Z5 (H.Yy F1) 0 rfl rfl rfl<|Z9 rfl<|Z5 (H.at 0 rfl) 0 rfl rfl rfl ?_
  refine cI (fun c3=>?_) (fun c3=>?_)
  ·replace c3:=YC (c3)
   refine Z6.mk ?_
   refine ⟨d,?_⟩
   refine ⟨?_,?_⟩
   ·exact Gb AH hb
   exact H
  replace c3:=YB (c3)
  refine Z7.mk (Fc.imp (YN.kind H _) ?_)
  clear H
  rintro UE w2 ⟨c4,⟨h2,H⟩⟩
  refine ZY AH ?_
  refine Xl.mk ((i+1,c4)) (Zx rfl AH (ZX)) ?_ ?_
  ·refine ⟨AH,?_⟩
   refine ⟨?_,?_⟩
   ·exact Ga hx1 AG hb
   exact H
  omega
 replace c2:=YP (c2)
 refine Z6.mk ?_
 refine ⟨d,?_⟩
 refine ⟨?_,?_⟩
 ·exact Gc AH hb
 exact H
theorem akG (H:Sat g w (Pt pc [AB b] 269::l)) (m:Int) (v:Value) (xs:List Int) (hx:Z0 g ZE Xz 1 v xs):Fc Tryz.prog 212 #[AA pc,v,AB m,.func (.func 176) #[AA pc] #[]] w (fun _ w'=>∃c,FE b (Yu m UP xs) c∧Sat g w' (Pt pc [AB c] 269::l)):=by
 refine Fc.of Tryz.func212 rfl k_d ?_
 have hbd:=VY.len hx
 refine ZF hx rfl ?_
 refine Z7.mk (Fc.imp (YN.need H _ _) ?_)
 clear H
 rintro v' w1 ⟨c1,⟨h1,H⟩⟩
 refine ZF hx rfl ?_
 refine Y9.rule (α:=Nat × Int) (0,c1) (fun x_=>[(18,AB x_.1)]) (fun x_ w_=>(x_.1≤xs.length)∧(fst x_.2 (Yt UP (xs.drop x_.1))=fst b (Yu m UP xs))∧Sat g w_ ((Pt pc [AB x_.2] 269::l))) (fun x_=>xs.length-x_.1) ?_ ?_ ?_
 ·exact k_a
 ·try simp only
  refine ⟨AH,?_⟩
  refine ⟨?_,?_⟩
  ·exact Gd AG
  exact H
 clear H
 rintro ⟨i,d⟩ f_ w_ ⟨hi,hb,H⟩
 try simp only at hi hb H ⊢
 refine cI (fun c2=>?_) (fun c2=>?_)
 ·replace c2:=YQ (c2)
  refine bk ?_
  obtain ⟨x1,hx1⟩:∃x,(xs)[(i)]?=some x:=⟨_,laa AH⟩
  obtain ⟨b1,o1,E1,F1,ZL⟩:=Z0.Zf hx hx1
  refine ZK E1 rfl rfl rfl<|Z5 (H.Yy F1) 0 rfl rfl rfl<|Z9 rfl<|Z5 (H.at 0 rfl) 0 rfl rfl rfl ?_
  refine cI (fun c3=>?_) (fun c3=>?_)
  ·replace c3:=YC (c3)
   refine Z6.mk ?_
   refine ⟨d,?_⟩
   refine ⟨?_,?_⟩
   ·exact Gb AH hb
   exact H
  replace c3:=YB (c3)
  refine Z7.mk (Fc.imp (YN.index H _) ?_)
  clear H
  rintro UE w2 ⟨c4,⟨h2,H⟩⟩
  refine ZY AH ?_
  refine Xl.mk ((i+1,c4)) (Zx rfl AH (ZX)) ?_ ?_
  ·refine ⟨AH,?_⟩
   refine ⟨?_,?_⟩
   ·exact Ga hx1 AG hb
   exact H
  omega
 replace c2:=YP (c2)
 refine Z6.mk ?_
 refine ⟨d,?_⟩
 refine ⟨?_,?_⟩
 ·exact Gc AH hb
 exact H
theorem sig (H:Sat g w (Pt pc [AB b] 269::l)) (x:Xy) (hx:Wq g x):Fc Tryz.prog 172 #[AA pc,.agg #[x.vi,x.vo]] w (fun _ w'=>∃c,FE b (Jv x.d) c∧Sat g w' (Pt pc [AB c] 269::l)):=by
 refine Fc.of Tryz.func172 rfl k_d ?_
 have aiG:=hx.Zd
 have aiH:=hx.out
 refine ZJ H<|fun p1 w1 H=>Z9 rfl<|Z5 (H.at 0 rfl) 0 rfl rfl rfl<|H.Z8 [1]<|fun H=>?_
 refine Z7.mk (Fc.imp (YN.HC H _ _ _ aiG) ?_)
 clear H
 rintro v' w2 ⟨c1,⟨h1,H⟩⟩
 refine Z9 rfl<|Z5 (H.at 1 rfl) 1 rfl rfl rfl ?_
 refine Z7.mk (Fc.imp (YN.HC H _ _ _ aiH) ?_)
 clear H
 rintro UE w3 ⟨c2,⟨h2,H⟩⟩
 refine Z6.mk ?_
 refine ⟨c2,?_⟩
 refine ⟨?_,?_⟩
 ·exact FE.two AG AG
 refine H.drop 1<|fun H=>?_
 exact H
theorem aiI (H:Sat g w (Pt pc [AB b] 269::l)) (m:Int) (v:Value) (xs:List Xy) (hx:Z0 g OP (Wq g) 2 v xs):Fc Tryz.prog 171 #[AA pc,v,AB m,.func (.func 172) #[AA pc] #[]] w (fun _ w'=>∃c,FE b (Yu m (fun x:Xy=>Jv x.d) xs) c∧Sat g w' (Pt pc [AB c] 269::l)):=by
 refine Fc.of Tryz.func171 rfl k_d ?_
 have hbd:=VY.len hx
 refine ZF hx rfl ?_
 refine Z7.mk (Fc.imp (YN.need H _ _) ?_)
 clear H
 rintro v' w1 ⟨c1,⟨h1,H⟩⟩
 refine ZF hx rfl ?_
 refine Y9.rule (α:=Nat × Int) (0,c1) (fun x_=>[(18,AB x_.1)]) (fun x_ w_=>(x_.1≤xs.length)∧(fst x_.2 (Yt (fun x:Xy=>Jv x.d) (xs.drop x_.1))=fst b (Yu m (fun x:Xy=>Jv x.d) xs))∧Sat g w_ ((Pt pc [AB x_.2] 269::l))) (fun x_=>xs.length-x_.1) ?_ ?_ ?_
 ·exact k_a
 ·try simp only
  refine ⟨AH,?_⟩
  refine ⟨?_,?_⟩
  ·exact Gd AG
  exact H
 clear H
 rintro ⟨i,d⟩ f_ w_ ⟨hi,hb,H⟩
 try simp only at hi hb H ⊢
 refine cI (fun c2=>?_) (fun c2=>?_)
 ·replace c2:=YQ (c2)
  refine bk ?_
  obtain ⟨x1,hx1⟩:∃x,(xs)[(i)]?=some x:=⟨_,laa AH⟩
  obtain ⟨b1,o1,E1,F1,ZL⟩:=Z0.Zf hx hx1
  have PK:=ZL.Zd
  have PJ:=ZL.out
  refine ZK E1 rfl rfl rfl<|ZD (H.Yy F1) 0 rfl rfl rfl<|ZU H rfl<|fun p1 w2 H=>ZG H 0 rfl rfl rfl (by grind [Z0.one])<|fun w3 H=>Z9 rfl<|Z5 (H.at 1 rfl) 0 rfl rfl rfl ?_
  refine cI (fun c3=>?_) (fun c3=>?_)
  ·replace c3:=YC (c3)
   refine Z6.mk ?_
   refine ⟨d,?_⟩
   refine ⟨?_,?_⟩
   ·exact Gb AH hb
   refine H.Z8 [1]<|fun H=>H.drop 1<|fun H=>?_
   exact H
  replace c3:=YB (c3)
  refine ZD (H.at 0 rfl) 0 rfl rfl rfl<|H.Z8 [1]<|fun H=>?_
  refine Z7.mk (Fc.imp (YN.sig H _ AH) ?_)
  clear H
  rintro UE w2 ⟨c4,⟨h2,H⟩⟩
  refine ZY AH ?_
  refine Xl.mk ((i+1,c4)) (Zx rfl AH (ZX)) ?_ ?_
  ·refine ⟨AH,?_⟩
   refine ⟨?_,?_⟩
   ·exact Ga hx1 AG hb
   refine H.drop 1<|fun H=>?_
   exact H
  omega
 replace c2:=YP (c2)
 refine Z6.mk ?_
 refine ⟨d,?_⟩
 refine ⟨?_,?_⟩
 ·exact Gc AH hb
 exact H
theorem amZ (H:Sat g w (Pt pc [AB b] 269::Pt q [AA pc] 267::l)) (hT:Oq g) (x:List UInt8 × Int) (hx:RO x):Fc Tryz.prog 174 #[.agg #[.string (bs x.1),AB x.2],AA q] w (fun _ w'=>∃c,FE b (PL x) c∧Sat g w' (Pt pc [AB c] 269::Pt q [AA pc] 267::l)):=by
 refine Fc.of Tryz.func174 rfl k_d ?_
 have agD:=hx.name
 have ahL:=hx.ty
 refine ZJ H<|fun p1 w1 H=>Z5 (H.at 2 rfl) 0 rfl rfl rfl<|Z9 rfl<|Z5 (H.at 0 rfl) 0 rfl rfl rfl<|H.Z8 [1]<|fun H=>?_
 refine Z7.mk (Fc.imp (YN.named H AH _ AH) ?_)
 clear H
 rintro v' w2 ⟨c1,⟨h1,H⟩⟩
 refine Z5 (H.at 2 rfl) 0 rfl rfl rfl<|Z9 rfl<|Z5 (H.at 1 rfl) 1 rfl rfl rfl ?_
 refine Z7.mk (Fc.imp (YN.index H _) ?_)
 clear H
 rintro UE w3 ⟨c2,⟨h2,H⟩⟩
 refine Z6.mk ?_
 refine ⟨c2,?_⟩
 refine ⟨?_,?_⟩
 ·exact FE.two AG AG
 refine H.Z8 [2,1]<|fun H=>H.drop 2<|fun H=>?_
 exact H
theorem aiJ (H:Sat g w (Pt pc [AB b] 269::Pt q [AA pc] 267::l)) (hT:Oq g) (m:Int) (v:Value) (xs:List (List UInt8 × Int)) (hx:Z0 g TY RO 2 v xs):Fc Tryz.prog 173 #[AA pc,v,AB m,.func (.func 174) #[] #[AA q]] w (fun _ w'=>∃c,FE b (Yu m PL xs) c∧Sat g w' (Pt pc [AB c] 269::Pt q [AA pc] 267::l)):=by
 refine Fc.of Tryz.func173 rfl k_d ?_
 have hbd:=VY.len hx
 refine ZF hx rfl ?_
 refine Z7.mk (Fc.imp (YN.need H _ _) ?_)
 clear H
 rintro v' w1 ⟨c1,⟨h1,H⟩⟩
 refine ZF hx rfl ?_
 refine Y9.rule (α:=Nat × Int) (0,c1) (fun x_=>[(18,AB x_.1)]) (fun x_ w_=>(x_.1≤xs.length)∧(fst x_.2 (Yt PL (xs.drop x_.1))=fst b (Yu m PL xs))∧Sat g w_ ((Pt pc [AB x_.2] 269::Pt q [AA pc] 267::l))) (fun x_=>xs.length-x_.1) ?_ ?_ ?_
 ·exact k_a
 ·try simp only
  refine ⟨AH,?_⟩
  refine ⟨?_,?_⟩
  ·exact Gd AG
  exact H
 clear H
 rintro ⟨i,d⟩ f_ w_ ⟨hi,hb,H⟩
 try simp only at hi hb H ⊢
 refine cI (fun c2=>?_) (fun c2=>?_)
 ·replace c2:=YQ (c2)
  refine bk ?_
  obtain ⟨x1,hx1⟩:∃x,(xs)[(i)]?=some x:=⟨_,laa AH⟩
  obtain ⟨b1,o1,E1,F1,ZL⟩:=Z0.Zf hx hx1
  have Vu:=ZL.name
  have Yi:=ZL.ty
  refine ZK E1 rfl rfl rfl<|ZD (H.Yy F1) 0 rfl rfl rfl<|ZU H rfl<|fun p1 w2 H=>ZG H 0 rfl rfl rfl rfl<|fun w3 H=>Z9 rfl<|Z5 (H.at 1 rfl) 0 rfl rfl rfl ?_
  refine cI (fun c3=>?_) (fun c3=>?_)
  ·replace c3:=YC (c3)
   refine Z6.mk ?_
   refine ⟨d,?_⟩
   refine ⟨?_,?_⟩
   ·exact Gb AH hb
   refine H.Z8 [2,2]<|fun H=>H.drop 2<|fun H=>?_
   exact H
  replace c3:=YB (c3)
  refine ZD (H.at 0 rfl) 0 rfl rfl rfl<|H.Z8 [2,2]<|fun H=>?_
  refine Z7.mk (Fc.imp (YN.amZ H AH _ AH) ?_)
  clear H
  rintro UE w2 ⟨c4,⟨h2,H⟩⟩
  refine ZY AH ?_
  refine Xl.mk ((i+1,c4)) (Zx rfl AH (ZX)) ?_ ?_
  ·refine ⟨AH,?_⟩
   refine ⟨?_,?_⟩
   ·exact Ga hx1 AG hb
   refine H.drop 2<|fun H=>?_
   exact H
  omega
 replace c2:=YP (c2)
 refine Z6.mk ?_
 refine ⟨d,?_⟩
 refine ⟨?_,?_⟩
 ·exact Gc AH hb
 exact H
theorem am0 {b c d:Int} {x:YE} (h1:FE b (UP x.ty) c) (h2:FE c (Yu 16 Tw x.loc) d) (h:d≠0):FE b (Ln x.d) d:=by
 unfold FE at *
 have:fst d (Ym x.d.body)=d:=Te _ h
 rw [←this,h2,h1,Vv,Vv];rfl
theorem am1 {b c d e:Int} {x:YE} (h1:FE b (UP x.ty) c) (h2:FE c (Yu 16 Tw x.loc) d) (h:d=0) (he:e=Ym (x.body.map Y7.d)):FE b (Ln x.d) e:=by
 unfold FE at *
 have:fst d (Ym x.d.body)=e:=by rw [h,WK];exact he.symm
 rw [←this,h2,h1,Vv,Vv];rfl
theorem function (H:Sat g w (Pt pc [AB b] 269::l)) (x:YE) (hx:UF g x):Fc Tryz.prog 178 #[AA pc,.agg #[AB x.ty,x.vl,x.vb]] w (fun _ w'=>∃c,FE b (Ln x.d) c∧Sat g w' (Pt pc [AB c] 269::l)):=by
 refine Fc.of Tryz.func178 rfl k_d ?_
 have ahL:=hx.ty
 have aiK:=hx.loc
 have agE:=hx.body
 refine ZJ H<|fun p1 w1 H=>Z9 rfl<|Z5 (H.at 0 rfl) 0 rfl rfl rfl<|H.Z8 [1]<|fun H=>?_
 refine Z7.mk (Fc.imp (YN.index H _) ?_)
 clear H
 rintro v' w2 ⟨c1,⟨h1,H⟩⟩
 refine Z9 rfl<|Z5 (H.at 1 rfl) 1 rfl rfl rfl ?_
 refine Z7.mk (Fc.imp (YN.HC H _ _ _ aiK) ?_)
 clear H
 rintro UE w3 ⟨c2,⟨h2,H⟩⟩
 refine Z9 rfl<|Z5 (H.at 0 rfl) 0 rfl rfl rfl ?_
 refine cI (fun c3=>?_) (fun c3=>?_)
 ·replace c3:=ZR (c3)
  refine Z9 rfl<|Z5 (H.at 1 rfl) 2 rfl rfl rfl ?_
  refine Z7.mk (Fc.imp (Zm.check H _ _ agE) ?_)
  clear H
  rintro _ w4 ⟨⟨e1,⟨rfl,h3⟩⟩,H⟩
  refine Z9 rfl<|XS H 0 rfl rfl rfl rfl<|fun w5 H=>Z6.mk ?_
  refine ⟨e1,?_⟩
  refine ⟨?_,?_⟩
  ·exact am1 AG AG AH AG
  refine H.drop 1<|fun H=>?_
  exact H
 replace c3:=ZQ (c3)
 refine Z6.mk ?_
 refine ⟨c2,?_⟩
 refine ⟨?_,?_⟩
 ·exact am0 AG AG AH
 refine H.drop 1<|fun H=>?_
 exact H
theorem aiL (H:Sat g w (Pt pc [AB b] 269::l)) (m:Int) (v:Value) (xs:List YE) (hx:Z0 g OO (UF g) 3 v xs):Fc Tryz.prog 177 #[AA pc,v,AB m,.func (.func 178) #[AA pc] #[]] w (fun _ w'=>∃c,FE b (Yu m (fun x:YE=>Ln x.d) xs) c∧Sat g w' (Pt pc [AB c] 269::l)):=by
 refine Fc.of Tryz.func177 rfl k_d ?_
 have hbd:=VY.len hx
 refine ZF hx rfl ?_
 refine Z7.mk (Fc.imp (YN.need H _ _) ?_)
 clear H
 rintro v' w1 ⟨c1,⟨h1,H⟩⟩
 refine ZF hx rfl ?_
 refine Y9.rule (α:=Nat × Int) (0,c1) (fun x_=>[(18,AB x_.1)]) (fun x_ w_=>(x_.1≤xs.length)∧(fst x_.2 (Yt (fun x:YE=>Ln x.d) (xs.drop x_.1))=fst b (Yu m (fun x:YE=>Ln x.d) xs))∧Sat g w_ ((Pt pc [AB x_.2] 269::l))) (fun x_=>xs.length-x_.1) ?_ ?_ ?_
 ·exact k_a
 ·try simp only
  refine ⟨AH,?_⟩
  refine ⟨?_,?_⟩
  ·exact Gd AG
  exact H
 clear H
 rintro ⟨i,d⟩ f_ w_ ⟨hi,hb,H⟩
 try simp only at hi hb H ⊢
 refine cI (fun c2=>?_) (fun c2=>?_)
 ·replace c2:=YQ (c2)
  refine bk ?_
  obtain ⟨x1,hx1⟩:∃x,(xs)[(i)]?=some x:=⟨_,laa AH⟩
  obtain ⟨b1,o1,E1,F1,ZL⟩:=Z0.Zf hx hx1
  have Yi:=ZL.ty
  have Zv:=ZL.loc
  have ZH:=ZL.body
  refine ZK E1 rfl rfl rfl<|ZD (H.Yy F1) 0 rfl rfl rfl<|ZU H rfl<|fun p1 w2 H=>ZG H 0 rfl rfl rfl (by simp only [List.all_cons,List.all_nil,Z0.one ZH,Z0.one Zv,Z0.one hx];rfl)<|fun w3 H=>Z9 rfl<|Z5 (H.at 1 rfl) 0 rfl rfl rfl ?_
  refine cI (fun c3=>?_) (fun c3=>?_)
  ·replace c3:=YC (c3)
   refine Z6.mk ?_
   refine ⟨d,?_⟩
   refine ⟨?_,?_⟩
   ·exact Gb AH hb
   refine H.Z8 [1]<|fun H=>H.drop 1<|fun H=>?_
   exact H
  replace c3:=YB (c3)
  refine ZD (H.at 0 rfl) 0 rfl rfl rfl<|H.Z8 [1]<|fun H=>?_
  refine Z7.mk (Fc.imp (YN.function H _ AH) ?_)
  clear H
  rintro UE w2 ⟨c4,⟨h2,H⟩⟩
  refine ZY AH ?_
  refine Xl.mk ((i+1,c4)) (Zx rfl AH (ZX)) ?_ ?_
  ·refine ⟨AH,?_⟩
   refine ⟨?_,?_⟩
   ·exact Ga hx1 AG hb
   refine H.drop 1<|fun H=>?_
   exact H
  omega
 replace c2:=YP (c2)
 refine Z6.mk ?_
 refine ⟨d,?_⟩
 refine ⟨?_,?_⟩
 ·exact Gc AH hb
 exact H
theorem akH (H:Sat g w (Pt pc [AB b] 269::Pt q [AA pc] 267::l)) (x:Int × Bool × Int) (hx:Lm x):Fc Tryz.prog 181 #[.agg #[.int .u8 x.1,.bool x.2.1,AB x.2.2],AA q] w (fun _ w'=>∃c,FE b (Mv x) c∧Sat g w' (Pt pc [AB c] 269::Pt q [AA pc] 267::l)):=by
 refine Fc.of Tryz.func181 rfl k_d ?_
 have amj:=hx.kind
 have aeG:=hx.start
 refine ZJ H<|fun p1 w1 H=>Z5 (H.at 2 rfl) 0 rfl rfl rfl<|Z9 rfl<|Z5 (H.at 0 rfl) 0 rfl rfl rfl<|H.Z8 [1]<|fun H=>?_
 refine Z7.mk (Fc.imp (YN.kind H _) ?_)
 clear H
 rintro v' w2 ⟨c1,⟨h1,H⟩⟩
 refine Z5 (H.at 2 rfl) 0 rfl rfl rfl<|Z9 rfl<|Z5 (H.at 1 rfl) 0 rfl rfl rfl ?_
 refine br (fun c2=>?_) (fun c2=>?_)
 ·replace c2:=YC (c2)
  refine Z7.mk (Fc.imp (YN.need H _ _) ?_)
  clear H
  rintro UE w3 ⟨c3,⟨h2,H⟩⟩
  refine Z6.mk ?_
  refine ⟨c3,?_⟩
  refine ⟨?_,?_⟩
  ·exact gl1 h1 AG AG
  refine H.Z8 [2,1]<|fun H=>H.drop 2<|fun H=>?_
  exact H
 replace c2:=YB (c2)
 refine Z9 rfl<|Z5 (H.at 1 rfl) 2 rfl rfl rfl<|Z9 rfl<|Z5 (H.at 1 rfl) 2 rfl rfl rfl<|Zq rfl rfl<|Zq rfl rfl ?_
 refine Z7.mk (Fc.imp (YN.need H _ _) ?_)
 clear H
 rintro UE w3 ⟨c3,⟨h2,H⟩⟩
 refine Z6.mk ?_
 refine ⟨c3,?_⟩
 refine ⟨?_,?_⟩
 ·exact gl2 aeG h1 AH AG
 refine H.Z8 [2,1]<|fun H=>H.drop 2<|fun H=>?_
 exact H
theorem aeH (H:Sat g w (Pt pc [AB b] 269::Pt q [AA pc] 267::l)) (m:Int) (v:Value) (xs:List (Int × Bool × Int)) (hx:Z0 g Ok Lm 3 v xs):Fc Tryz.prog 180 #[AA pc,v,AB m,.func (.func 181) #[] #[AA q]] w (fun _ w'=>∃c,FE b (Yu m Mv xs) c∧Sat g w' (Pt pc [AB c] 269::Pt q [AA pc] 267::l)):=by
 refine Fc.of Tryz.func180 rfl k_d ?_
 have hbd:=VY.len hx
 refine ZF hx rfl ?_
 refine Z7.mk (Fc.imp (YN.need H _ _) ?_)
 clear H
 rintro v' w1 ⟨c1,⟨h1,H⟩⟩
 refine ZF hx rfl ?_
 refine Y9.rule (α:=Nat × Int) (0,c1) (fun x_=>[(18,AB x_.1)]) (fun x_ w_=>(x_.1≤xs.length)∧(fst x_.2 (Yt Mv (xs.drop x_.1))=fst b (Yu m Mv xs))∧Sat g w_ ((Pt pc [AB x_.2] 269::Pt q [AA pc] 267::l))) (fun x_=>xs.length-x_.1) ?_ ?_ ?_
 ·exact k_a
 ·try simp only
  refine ⟨AH,?_⟩
  refine ⟨?_,?_⟩
  ·exact Gd AG
  exact H
 clear H
 rintro ⟨i,d⟩ f_ w_ ⟨hi,hb,H⟩
 try simp only at hi hb H ⊢
 refine cI (fun c2=>?_) (fun c2=>?_)
 ·replace c2:=YQ (c2)
  refine bk ?_
  obtain ⟨x1,hx1⟩:∃x,(xs)[(i)]?=some x:=⟨_,laa AH⟩
  obtain ⟨b1,o1,E1,F1,ZL⟩:=Z0.Zf hx hx1
  have Re:=ZL.kind
  have Sp:=ZL.start
  refine ZK E1 rfl rfl rfl<|ZD (H.Yy F1) 0 rfl rfl rfl<|ZU H rfl<|fun p1 w2 H=>ZG H 0 rfl rfl rfl rfl<|fun w3 H=>Z9 rfl<|Z5 (H.at 1 rfl) 0 rfl rfl rfl ?_
  refine cI (fun c3=>?_) (fun c3=>?_)
  ·replace c3:=YC (c3)
   refine Z6.mk ?_
   refine ⟨d,?_⟩
   refine ⟨?_,?_⟩
   ·exact Gb AH hb
   refine H.Z8 [2,2]<|fun H=>H.drop 2<|fun H=>?_
   exact H
  replace c3:=YB (c3)
  refine ZD (H.at 0 rfl) 0 rfl rfl rfl<|H.Z8 [2,2]<|fun H=>?_
  refine Z7.mk (Fc.imp (YN.akH H _ AH) ?_)
  clear H
  rintro UE w2 ⟨c4,⟨h2,H⟩⟩
  refine ZY AH ?_
  refine Xl.mk ((i+1,c4)) (Zx rfl AH (ZX)) ?_ ?_
  ·refine ⟨AH,?_⟩
   refine ⟨?_,?_⟩
   ·exact Ga hx1 AG hb
   refine H.drop 2<|fun H=>?_
   exact H
  omega
 replace c2:=YP (c2)
 refine Z6.mk ?_
 refine ⟨d,?_⟩
 refine ⟨?_,?_⟩
 ·exact Gc AH hb
 exact H
theorem shown (H:Sat g w (Pt pc [AB b] 269::l)) (hT:Oq g) (x:List UInt8 × Int) (hx:RO x):Fc Tryz.prog 184 #[AA pc,.agg #[.string (bs x.1),AB x.2]] w (fun _ w'=>∃c,FE b (PL x) c∧Sat g w' (Pt pc [AB c] 269::l)):=by
 refine Fc.of Tryz.func184 rfl k_d ?_
 have agD:=hx.name
 have ahL:=hx.ty
 refine ZJ H<|fun p1 w1 H=>Z9 rfl<|Z5 (H.at 0 rfl) 0 rfl rfl rfl<|H.Z8 [1]<|fun H=>?_
 refine Z7.mk (Fc.imp (YN.named H AH _ AH) ?_)
 clear H
 rintro v' w2 ⟨c1,⟨h1,H⟩⟩
 refine Z9 rfl<|Z5 (H.at 1 rfl) 1 rfl rfl rfl ?_
 refine Z7.mk (Fc.imp (YN.index H _) ?_)
 clear H
 rintro UE w3 ⟨c2,⟨h2,H⟩⟩
 refine Z6.mk ?_
 refine ⟨c2,?_⟩
 refine ⟨?_,?_⟩
 ·exact FE.two AG AG
 refine H.drop 1<|fun H=>?_
 exact H
theorem aeI (H:Sat g w (Pt pc [AB b] 269::l)) (hT:Oq g) (m:Int) (v:Value) (xs:List (List UInt8 × Int)) (hx:Z0 g TY RO 2 v xs):Fc Tryz.prog 183 #[AA pc,v,AB m,.func (.func 184) #[AA pc] #[]] w (fun _ w'=>∃c,FE b (Yu m PL xs) c∧Sat g w' (Pt pc [AB c] 269::l)):=by
 refine Fc.of Tryz.func183 rfl k_d ?_
 have hbd:=VY.len hx
 refine ZF hx rfl ?_
 refine Z7.mk (Fc.imp (YN.need H _ _) ?_)
 clear H
 rintro v' w1 ⟨c1,⟨h1,H⟩⟩
 refine ZF hx rfl ?_
 refine Y9.rule (α:=Nat × Int) (0,c1) (fun x_=>[(18,AB x_.1)]) (fun x_ w_=>(x_.1≤xs.length)∧(fst x_.2 (Yt PL (xs.drop x_.1))=fst b (Yu m PL xs))∧Sat g w_ ((Pt pc [AB x_.2] 269::l))) (fun x_=>xs.length-x_.1) ?_ ?_ ?_
 ·exact k_a
 ·try simp only
  refine ⟨AH,?_⟩
  refine ⟨?_,?_⟩
  ·exact Gd AG
  exact H
 clear H
 rintro ⟨i,d⟩ f_ w_ ⟨hi,hb,H⟩
 try simp only at hi hb H ⊢
 refine cI (fun c2=>?_) (fun c2=>?_)
 ·replace c2:=YQ (c2)
  refine bk ?_
  obtain ⟨x1,hx1⟩:∃x,(xs)[(i)]?=some x:=⟨_,laa AH⟩
  obtain ⟨b1,o1,E1,F1,ZL⟩:=Z0.Zf hx hx1
  have Vu:=ZL.name
  have Yi:=ZL.ty
  refine ZK E1 rfl rfl rfl<|ZD (H.Yy F1) 0 rfl rfl rfl<|ZU H rfl<|fun p1 w2 H=>ZG H 0 rfl rfl rfl rfl<|fun w3 H=>Z9 rfl<|Z5 (H.at 1 rfl) 0 rfl rfl rfl ?_
  refine cI (fun c3=>?_) (fun c3=>?_)
  ·replace c3:=YC (c3)
   refine Z6.mk ?_
   refine ⟨d,?_⟩
   refine ⟨?_,?_⟩
   ·exact Gb AH hb
   refine H.Z8 [1]<|fun H=>H.drop 1<|fun H=>?_
   exact H
  replace c3:=YB (c3)
  refine ZD (H.at 0 rfl) 0 rfl rfl rfl<|H.Z8 [1]<|fun H=>?_
  refine Z7.mk (Fc.imp (YN.shown H AH _ AH) ?_)
  clear H
  rintro UE w2 ⟨c4,⟨h2,H⟩⟩
  refine ZY AH ?_
  refine Xl.mk ((i+1,c4)) (Zx rfl AH (ZX)) ?_ ?_
  ·refine ⟨AH,?_⟩
   refine ⟨?_,?_⟩
   ·exact Ga hx1 AG hb
   refine H.drop 1<|fun H=>?_
   exact H
  omega
 replace c2:=YP (c2)
 refine Z6.mk ?_
 refine ⟨d,?_⟩
 refine ⟨?_,?_⟩
 ·exact Gc AH hb
 exact H
theorem elem (H:Sat g w (Pt pc [AB b] 269::l)) (x:Sq) (hx:Mt g x):Fc Tryz.prog 186 #[AA pc,.agg #[AB x.pl,x.vf]] w (fun _ w'=>∃c,FE b (Gf x.d) c∧Sat g w' (Pt pc [AB c] 269::l)):=by
 refine Fc.of Tryz.func186 rfl k_d ?_
 have IL:=hx.pl
 have QI:=hx.fs
 refine ZJ H<|fun p1 w1 H=>Z9 rfl<|Z5 (H.at 0 rfl) 0 rfl rfl rfl<|H.Z8 [1]<|fun H=>?_
 refine Z7.mk (Fc.imp (YN.place H _ AG) ?_)
 clear H
 rintro v' w2 ⟨c1,⟨h1,H⟩⟩
 refine Z9 rfl<|Z5 (H.at 1 rfl) 1 rfl rfl rfl ?_
 refine Z7.mk (Fc.imp (YN.akG H _ _ _ QI) ?_)
 clear H
 rintro UE w3 ⟨c2,⟨h2,H⟩⟩
 refine Z6.mk ?_
 refine ⟨c2,?_⟩
 refine ⟨?_,?_⟩
 ·exact FE.two AG AG
 refine H.drop 1<|fun H=>?_
 exact H
theorem aeJ (H:Sat g w (Pt pc [AB b] 269::l)) (m:Int) (v:Value) (xs:List Sq) (hx:Z0 g Ge (Mt g) 2 v xs):Fc Tryz.prog 185 #[AA pc,v,AB m,.func (.func 186) #[AA pc] #[]] w (fun _ w'=>∃c,FE b (Yu m (fun x:Sq=>Gf x.d) xs) c∧Sat g w' (Pt pc [AB c] 269::l)):=by
 refine Fc.of Tryz.func185 rfl k_d ?_
 have hbd:=VY.len hx
 refine ZF hx rfl ?_
 refine Z7.mk (Fc.imp (YN.need H _ _) ?_)
 clear H
 rintro v' w1 ⟨c1,⟨h1,H⟩⟩
 refine ZF hx rfl ?_
 refine Y9.rule (α:=Nat × Int) (0,c1) (fun x_=>[(18,AB x_.1)]) (fun x_ w_=>(x_.1≤xs.length)∧(fst x_.2 (Yt (fun x:Sq=>Gf x.d) (xs.drop x_.1))=fst b (Yu m (fun x:Sq=>Gf x.d) xs))∧Sat g w_ ((Pt pc [AB x_.2] 269::l))) (fun x_=>xs.length-x_.1) ?_ ?_ ?_
 ·exact k_a
 ·try simp only
  refine ⟨AH,?_⟩
  refine ⟨?_,?_⟩
  ·exact Gd AG
  exact H
 clear H
 rintro ⟨i,d⟩ f_ w_ ⟨hi,hb,H⟩
 try simp only at hi hb H ⊢
 refine cI (fun c2=>?_) (fun c2=>?_)
 ·replace c2:=YQ (c2)
  refine bk ?_
  obtain ⟨x1,hx1⟩:∃x,(xs)[(i)]?=some x:=⟨_,laa AH⟩
  obtain ⟨b1,o1,E1,F1,ZL⟩:=Z0.Zf hx hx1
  have PI:=ZL.pl
  have VU:=ZL.fs
  refine ZK E1 rfl rfl rfl<|ZD (H.Yy F1) 0 rfl rfl rfl<|ZU H rfl<|fun p1 w2 H=>ZG H 0 rfl rfl rfl (by simp only [List.all_cons,List.all_nil,Z0.one VU,Z0.one hx];rfl)<|fun w3 H=>Z9 rfl<|Z5 (H.at 1 rfl) 0 rfl rfl rfl ?_
  refine cI (fun c3=>?_) (fun c3=>?_)
  ·replace c3:=YC (c3)
   refine Z6.mk ?_
   refine ⟨d,?_⟩
   refine ⟨?_,?_⟩
   ·exact Gb AH hb
   refine H.Z8 [1]<|fun H=>H.drop 1<|fun H=>?_
   exact H
  replace c3:=YB (c3)
  refine ZD (H.at 0 rfl) 0 rfl rfl rfl<|H.Z8 [1]<|fun H=>?_
  refine Z7.mk (Fc.imp (YN.elem H _ AH) ?_)
  clear H
  rintro UE w2 ⟨c4,⟨h2,H⟩⟩
  refine ZY AH ?_
  refine Xl.mk ((i+1,c4)) (Zx rfl AH (ZX)) ?_ ?_
  ·refine ⟨AH,?_⟩
   refine ⟨?_,?_⟩
   ·exact Ga hx1 AG hb
   refine H.drop 1<|fun H=>?_
   exact H
  omega
 replace c2:=YP (c2)
 refine Z6.mk ?_
 refine ⟨d,?_⟩
 refine ⟨?_,?_⟩
 ·exact Gc AH hb
 exact H
theorem am2 (H:Sat g w (Pt pc [AB b] 269::Pt q [AA pc] 267::l)) (x:Int × List UInt8) (hx:Ju x):Fc Tryz.prog 188 #[.agg #[AB x.1,.string (bs x.2)],AA q] w (fun _ w'=>∃c,FE b (Mu x) c∧Sat g w' (Pt pc [AB c] 269::Pt q [AA pc] 267::l)):=by
 refine Fc.of Tryz.func188 rfl k_d ?_
 have IL:=hx.pl
 have akI:=hx.bytes
 refine ZJ H<|fun p1 w1 H=>Z5 (H.at 2 rfl) 0 rfl rfl rfl<|Z9 rfl<|Z5 (H.at 0 rfl) 0 rfl rfl rfl<|H.Z8 [1]<|fun H=>?_
 refine Z7.mk (Fc.imp (YN.place H _ AG) ?_)
 clear H
 rintro v' w2 ⟨c1,⟨h1,H⟩⟩
 refine Z5 (H.at 2 rfl) 0 rfl rfl rfl<|Z9 rfl<|Z5 (H.at 1 rfl) 1 rfl rfl rfl<|XH rfl ?_
 refine Z7.mk (Fc.imp (YN.need H _ _) ?_)
 clear H
 rintro UE w3 ⟨c2,⟨h2,H⟩⟩
 refine Z6.mk ?_
 refine ⟨c2,?_⟩
 refine ⟨?_,?_⟩
 ·exact dt1 h1 AG
 refine H.Z8 [2,1]<|fun H=>H.drop 2<|fun H=>?_
 exact H
theorem aeK (H:Sat g w (Pt pc [AB b] 269::Pt q [AA pc] 267::l)) (m:Int) (v:Value) (xs:List (Int × List UInt8)) (hx:Z0 g Ik Ju 2 v xs):Fc Tryz.prog 187 #[AA pc,v,AB m,.func (.func 188) #[] #[AA q]] w (fun _ w'=>∃c,FE b (Yu m Mu xs) c∧Sat g w' (Pt pc [AB c] 269::Pt q [AA pc] 267::l)):=by
 refine Fc.of Tryz.func187 rfl k_d ?_
 have hbd:=VY.len hx
 refine ZF hx rfl ?_
 refine Z7.mk (Fc.imp (YN.need H _ _) ?_)
 clear H
 rintro v' w1 ⟨c1,⟨h1,H⟩⟩
 refine ZF hx rfl ?_
 refine Y9.rule (α:=Nat × Int) (0,c1) (fun x_=>[(18,AB x_.1)]) (fun x_ w_=>(x_.1≤xs.length)∧(fst x_.2 (Yt Mu (xs.drop x_.1))=fst b (Yu m Mu xs))∧Sat g w_ ((Pt pc [AB x_.2] 269::Pt q [AA pc] 267::l))) (fun x_=>xs.length-x_.1) ?_ ?_ ?_
 ·exact k_a
 ·try simp only
  refine ⟨AH,?_⟩
  refine ⟨?_,?_⟩
  ·exact Gd AG
  exact H
 clear H
 rintro ⟨i,d⟩ f_ w_ ⟨hi,hb,H⟩
 try simp only at hi hb H ⊢
 refine cI (fun c2=>?_) (fun c2=>?_)
 ·replace c2:=YQ (c2)
  refine bk ?_
  obtain ⟨x1,hx1⟩:∃x,(xs)[(i)]?=some x:=⟨_,laa AH⟩
  obtain ⟨b1,o1,E1,F1,ZL⟩:=Z0.Zf hx hx1
  have PI:=ZL.pl
  have acj:=ZL.bytes
  refine ZK E1 rfl rfl rfl<|ZD (H.Yy F1) 0 rfl rfl rfl<|ZU H rfl<|fun p1 w2 H=>ZG H 0 rfl rfl rfl rfl<|fun w3 H=>Z9 rfl<|Z5 (H.at 1 rfl) 0 rfl rfl rfl ?_
  refine cI (fun c3=>?_) (fun c3=>?_)
  ·replace c3:=YC (c3)
   refine Z6.mk ?_
   refine ⟨d,?_⟩
   refine ⟨?_,?_⟩
   ·exact Gb AH hb
   refine H.Z8 [2,2]<|fun H=>H.drop 2<|fun H=>?_
   exact H
  replace c3:=YB (c3)
  refine ZD (H.at 0 rfl) 0 rfl rfl rfl<|H.Z8 [2,2]<|fun H=>?_
  refine Z7.mk (Fc.imp (YN.am2 H _ AH) ?_)
  clear H
  rintro UE w2 ⟨c4,⟨h2,H⟩⟩
  refine ZY AH ?_
  refine Xl.mk ((i+1,c4)) (Zx rfl AH (ZX)) ?_ ?_
  ·refine ⟨AH,?_⟩
   refine ⟨?_,?_⟩
   ·exact Ga hx1 AG hb
   refine H.drop 2<|fun H=>?_
   exact H
  omega
 replace c2:=YP (c2)
 refine Z6.mk ?_
 refine ⟨d,?_⟩
 refine ⟨?_,?_⟩
 ·exact Gc AH hb
 exact H
end
end Go.Proofs.YtakpnepblgfknaaGreatDoor.YN
namespace Go.Proofs.YtakpnepblgfknaaGreatDoor.YN
open Go YW Go.RowKit
open YU Zm X7
section
variable {g:Zy} {w:World} {l:List As}
theorem ahM {a:Int}:MH (JX 0 a) 1=DI 0 a:=by
 unfold MH DI
 by_cases h:0≤a
 ·rw [if_pos (by grind [YT]),if_pos h]
 ·rw [if_neg (by grind [YT]),if_neg h]
theorem akJ {a m:Int} (h0:0≤a):MH (JX a m) 1=Kh a m:=by
 unfold MH Kh
 by_cases h:a≤m
 ·rw [if_pos (by grind [YT]),if_pos ⟨h0,h⟩]
 ·rw [if_neg (by grind [YT]),if_neg (fun k=>h k.2)]
theorem akK {a m:Int} (h0:a<0):MH false 1=Kh a m:=by grind [MH,Kh]
theorem acH {m:Zg} {c1 c2 c3 c4 c5 c6 c7 c8 c9 c10 c11 c12 e4 e5 e6 e7:Int} (h1:FE 0 (Yu 16 (fun x=>Jv x.d) m.types) c1) (h2:FE c1 (Yu 16 PL m.ZA) c2) (h3:FE c2 (Yu 16 (fun x=>Ln x.d) m.funcs) c3)
  (h4:FE c3 e4 c4) (h5:FE c4 e5 c5) (h6:FE c5 e6 c6) (h7:FE c6 e7 c7) (h8:FE c7 (Yu 8 Mv m.globals) c8) (h9:FE c8 (Yu 8 PL m.Wa) c9) (h10:FE c9 (UP m.start) c10)
  (h11:FE c10 (Yu 4 (fun x=>Gf x.d) m.elems) c11) (h12:FE c11 (Yu 4 Mu m.data) c12) (k4:e4=DI 0 m.table) (k5:e5=DH m.table 16) (k6:e6=Kh m.pages m.most) (k7:e7=DH m.most 8):c12=OQ m.d:=by
 subst k4 k5 k6 k7
 unfold FE at *
 subst h1 h2 h3 h4 h5 h6 h7 h8 h9 h10 h11 h12
 simp only [Vv,WK]
 unfold OQ
 simp only [Zg.d,aaG]
theorem check (H:Sat g w l) (hT:Oq g) (m:Zg) (hm:XV g m):Fc Tryz.prog 128 #[.agg (AE m []).toArray] w (fun v w'=>(∃e,v=AB e∧e=OQ m.d)∧Sat g w' l):=by
 refine Fc.of Tryz.func128 rfl k_d ?_
 have ZP:=hm.types
 have Zu:=hm.ZA
 have ZV:=hm.funcs
 have Zh:=hm.globals
 have XF:=hm.Wa
 have XU:=hm.elems
 have VT:=hm.data
 refine ZJ H<|fun p1 w1 H=>Zj rfl rfl rfl<|ZJ H<|fun p2 w2 H=>ZU H rfl<|fun p3 w1 H=>XS H 0 rfl rfl rfl rfl<|fun w2 H=>Z5 (H.at 0 rfl) 0 rfl rfl rfl<|Z9 rfl<|Z5 (H.at 2 rfl) 0 rfl rfl rfl<|Z5 (H.at 0 rfl) 0 rfl rfl rfl<|H.Z8 [1]<|fun H=>?_
 refine Z7.mk (Fc.imp (YN.aiI H _ _ _ ZP) ?_)
 clear H
 rintro v' w1 ⟨c1,⟨h1,H⟩⟩
 refine Z5 (H.at 1 rfl) 0 rfl rfl rfl<|Z9 rfl<|Z5 (H.at 2 rfl) 1 rfl rfl rfl ?_
 refine Z7.mk (Fc.imp (YN.aiJ H AH _ _ _ Zu) ?_)
 clear H
 rintro UE w3 ⟨c2,⟨h2,H⟩⟩
 refine Z5 (H.at 1 rfl) 0 rfl rfl rfl<|Z9 rfl<|Z5 (H.at 2 rfl) 2 rfl rfl rfl<|Z5 (H.at 1 rfl) 0 rfl rfl rfl ?_
 refine Z7.mk (Fc.imp (YN.aiL H _ _ _ ZV) ?_)
 clear H
 rintro Ms w4 ⟨c3,⟨h3,H⟩⟩
 refine Z5 (H.at 1 rfl) 0 rfl rfl rfl<|Z9 rfl<|Z5 (H.at 2 rfl) 3 rfl rfl rfl ?_
 refine Z7.mk (Fc.imp (YN.need H _ _) ?_)
 clear H
 rintro PG w5 ⟨c4,⟨h4,H⟩⟩
 refine Z5 (H.at 1 rfl) 0 rfl rfl rfl<|Z9 rfl<|Z5 (H.at 2 rfl) 3 rfl rfl rfl ?_
 refine Z7.mk (Fc.imp (YN.need H _ _) ?_)
 clear H
 rintro DG w6 ⟨c5,⟨h5,H⟩⟩
 refine Z5 (H.at 1 rfl) 0 rfl rfl rfl<|Z9 rfl<|Z5 (H.at 2 rfl) 4 rfl rfl rfl ?_
 refine br (fun c6=>?_) (fun c6=>?_)
 ·replace c6:=XC (c6)
  refine Z9 rfl<|Z5 (H.at 2 rfl) 4 rfl rfl rfl<|Z9 rfl<|Z5 (H.at 2 rfl) 5 rfl rfl rfl ?_
  refine Z7.mk (Fc.imp (YN.need H _ _) ?_)
  clear H
  rintro ve' w7 ⟨c7,⟨h6,H⟩⟩
  refine Z5 (H.at 1 rfl) 0 rfl rfl rfl<|Z9 rfl<|Z5 (H.at 2 rfl) 5 rfl rfl rfl ?_
  refine Z7.mk (Fc.imp (YN.need H _ _) ?_)
  clear H
  rintro vf' w8 ⟨c8,⟨h7,H⟩⟩
  refine Z5 (H.at 1 rfl) 0 rfl rfl rfl<|Z9 rfl<|Z5 (H.at 2 rfl) 6 rfl rfl rfl ?_
  refine Z7.mk (Fc.imp (YN.aeH H _ _ _ Zh) ?_)
  clear H
  rintro vg' w9 ⟨c9,⟨h8,H⟩⟩
  refine Z5 (H.at 1 rfl) 0 rfl rfl rfl<|Z9 rfl<|Z5 (H.at 2 rfl) 7 rfl rfl rfl<|Z5 (H.at 1 rfl) 0 rfl rfl rfl ?_
  refine Z7.mk (Fc.imp (YN.aeI H AH _ _ _ XF) ?_)
  clear H
  rintro vh' C6 ⟨c10,⟨h9,H⟩⟩
  refine Z5 (H.at 1 rfl) 0 rfl rfl rfl<|Z9 rfl<|Z5 (H.at 2 rfl) 8 rfl rfl rfl ?_
  refine Z7.mk (Fc.imp (YN.index H _) ?_)
  clear H
  rintro v' C5 ⟨c11,⟨h10,H⟩⟩
  refine Z5 (H.at 1 rfl) 0 rfl rfl rfl<|Z9 rfl<|Z5 (H.at 2 rfl) 9 rfl rfl rfl<|Z5 (H.at 1 rfl) 0 rfl rfl rfl ?_
  refine Z7.mk (Fc.imp (YN.aeJ H _ _ _ XU) ?_)
  clear H
  rintro v' Ex ⟨c12,⟨h11,H⟩⟩
  refine Z5 (H.at 1 rfl) 0 rfl rfl rfl<|Z9 rfl<|Z5 (H.at 2 rfl) 10 rfl rfl rfl ?_
  refine Z7.mk (Fc.imp (YN.aeK H _ _ _ VT) ?_)
  clear H
  rintro v' Ew ⟨c13,⟨h12,H⟩⟩
  refine Z5 (H.at 1 rfl) 0 rfl rfl rfl<|Z9 rfl<|Z5 (H.at 0 rfl) 0 rfl rfl rfl<|Z6.mk ?_
  refine ⟨?_,?_⟩
  ·refine ⟨c13,?_⟩
   refine ⟨?_,?_⟩
   ·simp
   exact acH h1 h2 h3 h4 h5 h6 h7 h8 h9 h10 h11 h12 ahM Kg (akJ AH) Kg
  refine H.drop 2<|fun H=>H.drop 1<|fun H=>H.drop 0<|fun H=>?_
  exact H
 replace c6:=XB (c6)
 refine Z7.mk (Fc.imp (YN.need H _ _) ?_)
 clear H
 rintro ve' w7 ⟨c7,⟨h6,H⟩⟩
 refine Z5 (H.at 1 rfl) 0 rfl rfl rfl<|Z9 rfl<|Z5 (H.at 2 rfl) 5 rfl rfl rfl ?_
 refine Z7.mk (Fc.imp (YN.need H _ _) ?_)
 clear H
 rintro vf' w8 ⟨c8,⟨h7,H⟩⟩
 refine Z5 (H.at 1 rfl) 0 rfl rfl rfl<|Z9 rfl<|Z5 (H.at 2 rfl) 6 rfl rfl rfl ?_
 refine Z7.mk (Fc.imp (YN.aeH H _ _ _ Zh) ?_)
 clear H
 rintro vg' w9 ⟨c9,⟨h8,H⟩⟩
 refine Z5 (H.at 1 rfl) 0 rfl rfl rfl<|Z9 rfl<|Z5 (H.at 2 rfl) 7 rfl rfl rfl<|Z5 (H.at 1 rfl) 0 rfl rfl rfl ?_
 refine Z7.mk (Fc.imp (YN.aeI H AH _ _ _ XF) ?_)
 clear H
 rintro vh' C6 ⟨c10,⟨h9,H⟩⟩
 refine Z5 (H.at 1 rfl) 0 rfl rfl rfl<|Z9 rfl<|Z5 (H.at 2 rfl) 8 rfl rfl rfl ?_
 refine Z7.mk (Fc.imp (YN.index H _) ?_)
 clear H
 rintro v' C5 ⟨c11,⟨h10,H⟩⟩
 refine Z5 (H.at 1 rfl) 0 rfl rfl rfl<|Z9 rfl<|Z5 (H.at 2 rfl) 9 rfl rfl rfl<|Z5 (H.at 1 rfl) 0 rfl rfl rfl ?_
 refine Z7.mk (Fc.imp (YN.aeJ H _ _ _ XU) ?_)
 clear H
 rintro v' Ex ⟨c12,⟨h11,H⟩⟩
 refine Z5 (H.at 1 rfl) 0 rfl rfl rfl<|Z9 rfl<|Z5 (H.at 2 rfl) 10 rfl rfl rfl ?_
 refine Z7.mk (Fc.imp (YN.aeK H _ _ _ VT) ?_)
 clear H
 rintro v' Ew ⟨c13,⟨h12,H⟩⟩
 refine Z5 (H.at 1 rfl) 0 rfl rfl rfl<|Z9 rfl<|Z5 (H.at 0 rfl) 0 rfl rfl rfl<|Z6.mk ?_
 refine ⟨?_,?_⟩
 ·refine ⟨c13,?_⟩
  refine ⟨?_,?_⟩
  ·simp
  exact acH h1 h2 h3 h4 h5 h6 h7 h8 h9 h10 h11 h12 ahM Kg (akK AH) Kg
 refine H.drop 2<|fun H=>H.drop 1<|fun H=>H.drop 0<|fun H=>?_
 exact H
end
end Go.Proofs.YtakpnepblgfknaaGreatDoor.YN
namespace Go.Proofs.YtakpnepblgfknaaGreatDoor.Valid
open Go YW Go.RowKit
open YU Zm X7 YN
structure Yd where
 types:List XL
 ZA:List Int
 Kf:List Int
 globals:List (Int × Bool × Int)
 table:Int
 most:Int
def ZB (m:YS):Yd:=⟨m.types,m.ZA.map (·.2),m.funcs.map (·.ty),m.globals,m.table,m.most⟩
def Qx (E:Yd) (n:Int):Option Int:=if n<0 then none else if n<E.ZA.length then E.ZA[n.toNat]? else E.Kf[n.toNat-E.ZA.length]?
def Xn (E:Yd) (n:Int):Option XL:=(Qx E n).bind fun k=>E.types[k.toNat]?
structure ZC where
 op:Int
 kind:Int
 base:Nat
 dead:Bool
 under:Bool
def pz:ZC:=⟨0,0,0,false,false⟩
structure Ck where
 stack:List Int
 Zn:List ZC
 bad:Int
def YA (c:Ck) (e:Int):Ck:=if c.bad=0 then { c with bad:=e } else c
def Xj (c:Ck) (k:Int):Ck:=if k≠64 then { c with stack:=c.stack++[k] } else c
def Wz (c:Ck):ZC:=c.Zn.getD (c.Zn.length-1) pz
def Zb (c:Ck) (want:Int):Ck × Int :=
 if want=64 then (c,64)
 else if c.stack.length=(Wz c).base then (if (Wz c).dead=true then c else YA c 10,want)
 else
  let k:=c.stack.getD (c.stack.length-1) 0
  let c1:Ck:={ c with stack:=c.stack.take (c.stack.length-1) }
  if k=0 then (c1,want) else if want≠0∧k≠want then (YA c1 10,k) else (c1,k)
def Xm (c:Ck):List Int→Ck
 | []=>c
 | k::r=>(Zb (Xm c r) k).1
def WQ (c:Ck):List Int→Ck
 | []=>c
 | k::r=>WQ (Xj c k) r
def UO (c:Ck):Ck:={ c with stack:=c.stack.take (Wz c).base,Zn:=c.Zn.set (c.Zn.length-1) { Wz c with dead:=true } }
def YR (c:Ck) (n:Int):Ck × ZC:=if c.Zn.length≤n then (YA c 8,pz) else (c,c.Zn.getD (c.Zn.length-1-n.toNat) pz)
def Zc (p:ZC):Int:=if p.op=3 then 64 else p.kind
def TX (c:Ck):Bool:=if c.Zn=[] then false else (Wz c).dead || (Wz c).under
def V4 (c:Ck) (op kind:Int):Ck:={ c with Zn:=c.Zn++[⟨op,kind,c.stack.length,false,TX c⟩] }
def YM (c:Ck):Ck:=if (Zb c (Wz c).kind).1.stack.length≠(Wz c).base then YA (Zb c (Wz c).kind).1 10 else (Zb c (Wz c).kind).1
def Uu (c:Ck) (a:Int):Ck:=if (YR c a).1.bad=0 then (Zb (YR c a).1 (Zc (YR c a).2)).1 else (YR c a).1
def Xr (k:Int):List Int→Ck × Bool→Ck × Bool
 | [],s=>s
 | n::r,s=>Xr k r ((YR s.1 n).1,decide (Zc (YR s.1 n).2=k) && s.2)
def XT (c:Ck) (a:Int) (tt:List Int):Ck :=
 let k:=Zc (YR c a).2
 let s:=Xr k tt ((YR c a).1,true)
 if s.1.bad≠0 then s.1 else (Zb (Zb (if s.2=true then s.1 else YA s.1 10) 127).1 k).1
def Vc (c:Ck):Ck :=
 let p:=Wz c
 let c1:=YM c
 if c1.bad=0 then { c1 with Zn:=c1.Zn.take (c1.Zn.length-1)++[⟨5,p.kind,p.base,false,p.under⟩] } else c1
def Td (c:Ck):Ck :=
 let p:=Wz c
 let c1:=YM c
 let c2:=if p.op=4∧p.kind≠64 then YA c1 10 else c1
 if c2.bad=0 then Xj { c2 with Zn:=c2.Zn.take (c2.Zn.length-1) } p.kind else c2
def V0 (c:Ck) (a:Int):Ck :=
 let k:=Zc (YR c a).2
 let c1:=(YR c a).1
 if c1.bad=0 then Xj (Zb (Zb c1 127).1 k).1 k else c1
def Zz (c:Ck) (x:ZT):Ck :=
 if x.op=0 then UO c
 else if x.op=2∨x.op=3 then V4 c x.op x.a
 else if x.op=4 then V4 (Zb c 127).1 x.op x.a
 else if x.op=5 then Vc c
 else if x.op=11 then Td c
 else if x.op=12 then UO (Uu c x.a)
 else if x.op=13 then V0 c x.a
 else if x.op=15 then UO (Zb c (c.Zn.getD 0 pz).kind).1
 else if x.op=14 then UO (XT c x.a x.to)
 else c
def Wu (E:Yd) (c:Ck) (x:ZT):Ck :=
 if x.op=16 then
  match Xn E x.a with
  | none=>YA c 8
  | some t=>WQ (Xm c t.Zd) t.out
 else if E.table=0∨(E.types.length:Int)≤x.a then YA c 8
 else
  let t:=E.types.getD x.a.toNat ⟨[],[]⟩
  WQ (Xm (Zb c 127).1 t.Zd) t.out
def Xe (c:Ck):Ck :=
 let s:=Zb (Zb c 127).1 0
 let u:=Zb s.1 s.2
 Xj u.1 u.2
def Yc (E:Yd) (L:List Int) (c:Ck) (x:ZT):Ck :=
 if x.op<35 then
  if (L.length:Int)≤x.a then YA c 8
  else
   let k:=L.getD x.a.toNat 0
   let c1:=if x.op≠32 then (Zb c k).1 else c
   if x.op≠33 then Xj c1 k else c1
 else if (E.globals.length:Int)≤x.a then YA c 8
 else
  let g:=E.globals.getD x.a.toNat (0,false,0)
  if x.op=35 then Xj c g.1
  else (Zb (if g.2.1=true then c else YA c 10) g.1).1
def TW (o:Int):Int:=if o=40∨o=44∨o=45∨o=46∨o=47∨o=54∨o=58∨o=59 then 127 else 126
def Xi (o:Int):List Int × List Int × Bool :=
 if (XY o).2.2=true then ((XY o).1,[(XY o).2.1],true)
 else if 0<wid o∧o<54 then ([127],[TW o],true)
 else if 0<wid o then ([127,TW o],[],true)
 else if o=63 then ([],[127],true)
 else if o=64 then ([127],[127],true)
 else if o=65 then ([],[127],true)
 else if o=66 then ([],[126],true)
 else ([],[],false)
def F9 (a:Int):Int:=if a=0 then 1 else if a=1 then 2 else if a=2 then 4 else 8
def WO (E:Yd) (c:Ck) (x:ZT):Ck :=
 if E.most=0∧(0<wid x.op∨x.op=63∨x.op=64) then YA c 8
 else if 0<wid x.op∧(3<x.a∨wid x.op<F9 x.a) then YA c 9
 else WQ (Xm c (Xi x.op).1) (Xi x.op).2.1
def YY (E:Yd) (L:List Int) (c:Ck) (x:ZT):Ck :=
 if x.op=1 then c
 else if x.op≤15 then Zz c x
 else if x.op≤17 then Wu E c x
 else if x.op=26 then (Zb c 0).1
 else if x.op=27 then Xe c
 else if x.op≤36 then Yc E L c x
 else WO E c x
def VN (E:Yd) (L:List Int):List ZT→Ck→Ck
 | [],c=>c
 | x::r,c=>if (YY E L c x).bad≠0 then YY E L c x else VN E L r (YY E L c x)
def ZW (t:XL):Ck:=V4 ⟨[],[],0⟩ 2 (t.out.getD 0 64)
def SS (E:Yd) (f:PM):Int:=(VN E ((E.types.getD f.ty.toNat ⟨[],[]⟩).Zd++f.loc) f.body (ZW (E.types.getD f.ty.toNat ⟨[],[]⟩))).bad
end Go.Proofs.YtakpnepblgfknaaGreatDoor.Valid
namespace Go.Proofs.YtakpnepblgfknaaGreatDoor.Valid
open Go YW Go.RowKit
open YU Zm X7 YN
def Yp (p:ZC):List Value:=[.int .u8 p.op,.int .u8 p.kind,.int .i64 (p.base:Int),.bool p.dead,.bool p.under]
def Is {α:Type} (x y:α):Prop:=y=x
structure Xv (st:List Int) (op:List ZC):Prop where
 DF:(op.map (·.base)).Pairwise (·≤·)
 le:∀p,op[op.length-1]?=some p→p.base≤st.length
theorem Wc {st:List Int} {op:List ZC} {b:Int} {p:ZC} (h:op[op.length-1]?=some p):Wz ⟨st,op,b⟩=p:=by grind [Wz]
theorem Xv.all {st:List Int} {op:List ZC} {p:ZC} (h:Xv st op) (hp:op[op.length-1]?=some p):∀q∈op,q.base≤p.base:=by
 intro q hq
 obtain ⟨i,hi,rfl⟩:=lab0.1 hq
 obtain ⟨hl,e⟩:=lba.1 hp
 subst e
 rcases lra i (op.length-1) with h1|h1
 ·have:=(List.pairwise_iff_getElem.1 h.DF) i (op.length-1) (by grind) (by grind) h1
  simpa using this
 ·grind
theorem Xv.Ke {st st':List Int} {op:List ZC} {p:ZC} (h:Xv st op) (hp:op[op.length-1]?=some p) (hl:p.base≤st'.length):Xv st' op :=
 ⟨h.DF,fun q hq=>by rw [hp] at hq;obtain rfl:=Option.some.inj hq;exact hl⟩
theorem Xv.more {st st':List Int} {op:List ZC} (h:Xv st op) (hl:st.length≤st'.length):Xv st' op:=⟨h.DF,fun q hq=>lCa (h.le q hq) hl⟩
theorem Xv.Xo {st:List Int} {op:List ZC} (h:Xv st op) (o k:Int) (d u:Bool):Xv st (op++[⟨o,k,st.length,d,u⟩]):=by
 refine ⟨?_,fun q hq=>?_⟩
 ·rw [lQa,List.pairwise_append]
  refine ⟨h.DF,by simp,fun a ha c hc=>?_⟩
  obtain ⟨q,hq,rfl⟩:=lWa.1 ha
  have hc:c=st.length:=by grind
  subst hc
  cases hl:op[op.length-1]? with
  | none =>
   have:=List.getElem?_eq_none_iff.1 hl
   have:op.length=0:=by omega
   rw [List.length_eq_zero_iff.1 this] at hq;cases hq
  | some p=>exact lCa (h.all hl q hq) (h.le p hl)
 ·grind
theorem Xv.less {st:List Int} {op:List ZC} (h:Xv st op):Xv st (op.take (op.length-1)):=by
 refine ⟨by rw [List.map_take];exact h.DF.sublist (List.take_sublist _ _),fun q hq=>?_⟩
 have hm:q∈op:=lPb (lda hq)
 cases hl:op[op.length-1]? with
 | none =>
  have:=List.getElem?_eq_none_iff.1 hl
  have:op.length=0:=by omega
  rw [List.length_eq_zero_iff.1 this] at hm;cases hm
 | some p=>exact lCa (h.all hl q hm) (h.le p hl)
theorem Xv.same {st:List Int} {op:List ZC} {p p':ZC} (h:Xv st op) (hp:op[op.length-1]?=some p) (hb:p'.base=p.base):Xv st (op.set (op.length-1) p'):=by
 have hl:=(lba.1 hp).1
 refine ⟨?_,fun q hq=>?_⟩
 ·have e:(op.set (op.length-1) p').map (·.base)=op.map (·.base):=by
   apply lEa
   intro i
   rw [List.map_set,lMa]
   split
   ·grind
   ·rfl
  rw [e];exact h.DF
 ·rw [lua,lMa,if_pos rfl,if_pos hl] at hq
  obtain rfl:=Option.some.inj hq
  rw [hb];exact h.le p hp
theorem aeL {op:List ZC} {p p':ZC} (hp:op[op.length-1]?=some p):op.set (op.length-1) p'=op.take (op.length-1)++[p']:=by
 have hl:=(lba.1 hp).1
 apply lEa
 intro i
 rw [lMa]
 split
 ·grind
 ·grind
section
variable {g:Zy} {w:World} {l:List As} {pc:Nat} {m:Zg} {vl vs vo:Value} {st:List Int} {op:List ZC} {b:Int}
theorem aiM {st:List Int} {op:List ZC} {b e:Int} (h:b=0):Is (YA ⟨st,op,b⟩ e) ⟨st,op,e⟩:=(if_pos h:YA ⟨st,op,b⟩ e=_).symm
theorem aiN {st:List Int} {op:List ZC} {b e:Int} (h:b≠0):Is (YA ⟨st,op,b⟩ e) ⟨st,op,b⟩:=(if_neg h:YA ⟨st,op,b⟩ e=_).symm
theorem fail (H:Sat g w (Pt pc (AE m [vl,vs,vo,AB b]) 241::Sl 97 1 YH vs st::Sl 246 5 Yp vo op::l)) (e:Int):Fc Tryz.prog 216 #[AA pc,AB e] w (fun _ w'=>∃b',Is (YA ⟨st,op,b⟩ e) ⟨st,op,b'⟩∧Sat g w' (Pt pc (AE m [vl,vs,vo,AB b']) 241::Sl 97 1 YH vs st::Sl 246 5 Yp vo op::l)):=by
 refine Fc.of Tryz.func216 rfl k_d<|Z9 rfl<|Z5 (H.at 0 rfl) 14 rfl rfl rfl ?_
 refine cI (fun c1=>?_) (fun c1=>?_)
 ·replace c1:=ZR (c1)
  refine Z9 rfl<|XS H 0 rfl rfl rfl rfl<|fun w1 H=>Z6.mk ?_
  refine ⟨e,?_⟩
  refine ⟨?_,?_⟩
  ·exact aiM c1
  exact H
 replace c1:=ZQ (c1)
 refine Z6.mk ?_
 refine ⟨b,?_⟩
 refine ⟨?_,?_⟩
 ·exact aiN c1
 exact H
theorem aiO {st:List Int} {op:List ZC} {b k:Int} (h:k≠64):Is (Xj ⟨st,op,b⟩ k) ⟨st++[k],op,b⟩:=(if_pos h:Xj ⟨st,op,b⟩ k=_).symm
theorem aiP {st:List Int} {op:List ZC} {b k:Int} (h:k=64):Is (Xj ⟨st,op,b⟩ k) ⟨st,op,b⟩:=(if_neg (fun n=>n h):Xj ⟨st,op,b⟩ k=_).symm
theorem push (H:Sat g w (Pt pc (AE m [vl,vs,vo,AB b]) 241::Sl 97 1 YH vs st::Sl 246 5 Yp vo op::l)) (k:Int) (hst:st.length≤100000):Fc Tryz.prog 217 #[AA pc,.int .u8 k] w (fun _ w'=>∃vs' st',Is (Xj ⟨st,op,b⟩ k) ⟨st',op,b⟩∧st.length≤st'.length∧st'.length≤st.length+1∧Sat g w' (Pt pc (AE m [vl,vs',vo,AB b]) 241::Sl 97 1 YH vs' st'::Sl 246 5 Yp vo op::l)):=by
 refine Fc.of Tryz.func217 rfl k_d ?_
 refine cI (fun c1=>?_) (fun c1=>?_)
 ·replace c1:=YC (c1)
  refine Z9 rfl<|Z5 (H.at 0 rfl) 12 rfl rfl rfl<|ZZ H rfl rfl rfl rfl<|fun p1 w1 H=>Wr (ys:=[_]) 1 H 2 rfl (H.at 0 rfl) rfl (fun y _=>rfl) rfl rfl rfl AH AH<|fun v1=>?_
  intro w2 H
  refine Z9 rfl<|XS H 1 rfl rfl rfl (H.one 2 rfl)<|fun w1 H=>Z6.mk ?_
  refine ⟨v1,st++[k],?_⟩
  refine ⟨?_,?_⟩
  ·exact aiO c1
  refine ⟨?_,?_⟩
  ·simp
  refine ⟨?_,?_⟩
  ·simp
  refine H.Z8 [3,3,3]<|fun H=>H.drop 3<|fun H=>?_
  exact H
 replace c1:=YB (c1)
 refine Z6.mk ?_
 refine ⟨vs,st,?_⟩
 refine ⟨?_,?_⟩
 ·exact aiP c1
 refine ⟨AH,?_⟩
 refine ⟨AH,?_⟩
 exact H
theorem top (H:Sat g w (Pt pc (AE m [vl,vs,vo,AB b]) 241::Sl 97 1 YH vs st::Sl 246 5 Yp vo op::l)) (p:ZC) (hp:op[op.length-1]?=some p) (hn:0<op.length) (hop:op.length≤100):Fc Tryz.prog 132 #[AA pc] w (fun r w'=>∃b0 o0,r=.pointer (some ⟨b0,o0,none⟩)∧El vo 5 (op.length-1) b0 o0∧Sat g w' (Pt pc (AE m [vl,vs,vo,AB b]) 241::Sl 97 1 YH vs st::Sl 246 5 Yp vo op::l)):=by
 refine Fc.of Tryz.func132 rfl k_d<|ZN H [] [Azp0,Azp1,Azp2,Azh3,Azp4,Azp5,Azp6,Azh7,Azp8,Azp9,Azp10,Azp11] mixed k_d k_d<|fun w1 H=>tk (fun _ Z=>Z9 rfl AD)<|tk (fun _ Z=>Z5 (Z.at 0 rfl) 13 rfl rfl rfl AD)<|tk (fun _ Z=>Z9 rfl AD)<|tk (fun _ Z=>Z5 (Z.at 0 rfl) 13 rfl rfl rfl AD) ?_
 obtain ⟨a1,c1,V1⟩:=H.form 2 rfl
 refine tk (fun _ Z=>XN V1 rfl AD)<|ZY AH ?_
 obtain ⟨b1,o1,E1⟩:=H.Zf 2 rfl ((op.length)-1) AH
 refine tk (fun _ Z=>ZK E1 AH rfl rfl AD)<|Z6.mk ?_
 refine ⟨b1,o1,?_⟩
 refine ⟨rfl,?_⟩
 refine ⟨AG,?_⟩
 exact H
end
end Go.Proofs.YtakpnepblgfknaaGreatDoor.Valid
namespace Go.Proofs.YtakpnepblgfknaaGreatDoor.Valid
open Go YW Go.RowKit
open YU Zm X7 YN
section
variable {g:Zy} {w:World} {l:List As} {pc:Nat} {m:Zg} {vl vs vo:Value} {st:List Int} {op:List ZC} {b:Int}
theorem R6 {want:Int} (h:want=64):Is (Zb ⟨st,op,b⟩ want) (⟨st,op,b⟩,want):=by
 subst h;exact (if_pos rfl:Zb ⟨st,op,b⟩ 64=_).symm
theorem am3 {want:Int} {p:ZC} (h:want≠64) (hp:op[op.length-1]?=some p) (he:st.length=p.base) (hd:p.dead=true):Is (Zb ⟨st,op,b⟩ want) (⟨st,op,b⟩,want):=by
 unfold Is Zb
 rw [if_neg h,Wc hp,if_pos he,if_pos hd]
theorem am4 {want b':Int} {p:ZC} (h:want≠64) (hp:op[op.length-1]?=some p) (he:st.length=p.base) (hd:p.dead=false) (hf:Is (YA ⟨st,op,b⟩ 10) ⟨st,op,b'⟩):Is (Zb ⟨st,op,b⟩ want) (⟨st,op,b'⟩,want):=by
 unfold Is at *
 unfold Zb
 rw [if_neg h,Wc hp,if_pos he,if_neg (by grind),←hf]
theorem am5 {want k:Int} {p:ZC} (h:want≠64) (hp:op[op.length-1]?=some p) (he:¬st.length=p.base) (hk:st[st.length-1]?=some k) (h0:k=0):Is (Zb ⟨st,op,b⟩ want) (⟨st.take (st.length-1),op,b⟩,want):=by
 unfold Is Zb
 rw [if_neg h,Wc hp,if_neg he,lja,hk]
 exact (if_pos h0).symm
theorem am6 {want k b':Int} {p:ZC} (h:want≠64) (hp:op[op.length-1]?=some p) (he:¬st.length=p.base) (hk:st[st.length-1]?=some k) (h0:k≠0) (h1:want≠0) (h2:k≠want) (hf:Is (YA ⟨st.take (st.length-1),op,b⟩ 10) ⟨st.take (st.length-1),op,b'⟩):Is (Zb ⟨st,op,b⟩ want) (⟨st.take (st.length-1),op,b'⟩,k):=by
 unfold Is at *
 unfold Zb
 rw [if_neg h,Wc hp,if_neg he,lja,hk,hf]
 simp only [Option.getD_some]
 rw [if_neg h0,if_pos ⟨h1,h2⟩]
theorem akL {want k:Int} {p:ZC} (h:want≠64) (hp:op[op.length-1]?=some p) (he:¬st.length=p.base) (hk:st[st.length-1]?=some k) (h0:k≠0) (h1:want=0∨k=want):Is (Zb ⟨st,op,b⟩ want) (⟨st.take (st.length-1),op,b⟩,k):=by
 unfold Is Zb
 rw [if_neg h,Wc hp,if_neg he,lja,hk]
 simp only [Option.getD_some]
 rw [if_neg h0,if_neg AH]
theorem pop (H:Sat g w (Pt pc (AE m [vl,vs,vo,AB b]) 241::Sl 97 1 YH vs st::Sl 246 5 Yp vo op::l)) (want:Int) (hn:0<op.length) (hop:op.length≤100) (hst:st.length≤100000) (hok:Xv st op):Fc Tryz.prog 192 #[AA pc,.int .u8 want] w (fun r w'=>∃k vs' st' b',r=.int .u8 k∧Is (Zb ⟨st,op,b⟩ want) (⟨st',op,b'⟩,k)∧Xv st' op∧st'.length≤st.length∧Sat g w' (Pt pc (AE m [vl,vs',vo,AB b']) 241::Sl 97 1 YH vs' st'::Sl 246 5 Yp vo op::l)):=by
 obtain ⟨p,hp⟩:∃p,op[op.length-1]?=some p:=⟨_,laa AH⟩
 have hle:=hok.le p hp
 refine Fc.of Tryz.func192 rfl k_d ?_
 refine cI (fun c1=>?_) (fun c1=>?_)
 ·replace c1:=ZR (c1)
  refine Z6.mk ?_
  refine ⟨want,vs,st,b,?_⟩
  refine ⟨?_,?_⟩
  ·simp
  refine ⟨?_,?_⟩
  ·exact R6 AG
  refine ⟨AH,?_⟩
  refine ⟨AH,?_⟩
  exact H
 replace c1:=ZQ (c1)
 refine Z7.mk (Fc.imp (Valid.top H _ hp AH AH) ?_)
 clear H
 rintro _ w1 ⟨GG,⟨Eu,⟨rfl,⟨h1,H⟩⟩⟩⟩
 refine ZN H [] [Azp0,Azp1,Azp2,Azh3,Azp4,Azp5,Azp6,Azp7,Azh8,Azp9] mixed k_d k_d<|fun w2 H=>tk (fun _ Z=>Z9 rfl AD)<|tk (fun _ Z=>Z5 (Z.at 0 rfl) 12 rfl rfl rfl AD) ?_
 obtain ⟨a1,c2,V1⟩:=H.form 1 rfl
 refine tk (fun _ Z=>XN V1 rfl AD)<|tk (fun _ Z=>Z9 rfl AD)<|tk (fun _ Z=>Z5 (Z.el 2 rfl h1 hp) 2 rfl rfl rfl AD) ?_
 refine cI (fun c3=>?_) (fun c3=>?_)
 ·replace c3:=ZR (c3)
  refine Z9 rfl<|Z5 (H.el 2 rfl h1 hp) 3 rfl rfl rfl ?_
  refine cI (fun c4=>?_) (fun c4=>?_)
  ·replace c4:=TD (c4)
   refine Z7.mk (Fc.imp (Valid.fail H _) ?_)
   clear H
   rintro v' w1 ⟨X0,⟨h2,H⟩⟩
   refine Z6.mk ?_
   refine ⟨want,vs,st,X0,?_⟩
   refine ⟨?_,?_⟩
   ·simp
   refine ⟨?_,?_⟩
   ·exact am4 AG hp AH AG AG
   refine ⟨AH,?_⟩
   refine ⟨AH,?_⟩
   exact H
  replace c4:=TC (c4)
  refine Z6.mk ?_
  refine ⟨want,vs,st,b,?_⟩
  refine ⟨?_,?_⟩
  ·simp
  refine ⟨?_,?_⟩
  ·exact am3 AG hp AH AG
  refine ⟨AH,?_⟩
  refine ⟨AH,?_⟩
  exact H
 replace c3:=ZQ (c3)
 refine ZN H [] [Azp0,Azp1,Azp2,Azh3,Azp4,Azp5,Azp6,Azh7,Azp8,Azp9,Azp10,Azh11,Azp12] mixed k_d k_d<|fun w1 H=>tk (fun _ Z=>Z9 rfl AD)<|tk (fun _ Z=>Z5 (Z.at 0 rfl) 12 rfl rfl rfl AD)<|tk (fun _ Z=>Z9 rfl AD)<|tk (fun _ Z=>Z5 (Z.at 0 rfl) 12 rfl rfl rfl AD)<|tk (fun _ Z=>XN V1 rfl AD)<|ZY AH ?_
 obtain ⟨x1,hx1⟩:∃x,(st)[((st.length)-1)]?=some x:=⟨_,laa AH⟩
 obtain ⟨b1,o1,E1⟩:=H.Zf 1 rfl ((st.length)-1) AH
 refine tk (fun _ Z=>ZK E1 AH rfl rfl AD)<|tk (fun _ Z=>Z5 (Z.el 1 rfl E1 hx1) 0 rfl rfl rfl AD)<|ZN H [] [Azp0,Azp1,Azp2,Azp3,Azh4,Azp5,Azp6,Azp7,Azh8,Azp9,Azp10,Azp11,Azp12,Azp13,Azfr14] mixed k_d k_d<|fun w2 H=>tk (fun _ Z=>Z9 rfl AD)<|tk (fun _ Z=>Z5 (Z.at 0 rfl) 12 rfl rfl rfl AD)<|tk (fun _ Z=>Z9 rfl AD)<|tk (fun _ Z=>Z5 (Z.at 0 rfl) 12 rfl rfl rfl AD)<|tk (fun _ Z=>XN V1 rfl AD)<|ZY AH ?_
 obtain ⟨v1,V2⟩:=H.vw 1 rfl (0) (((st.length)-1)) AH AH
 refine tk (fun _ Z=>VI V2 rfl rfl (.inl AD) (.inr ⟨_,by first|rfl|(congr 2;omega)⟩) AD)<|tk (fun _ Z=>Z9 rfl AD)<|XS H 0 rfl rfl rfl (by simp only [Bool.and_true,H.one 1 rfl,H.one 2 rfl,Vw.one V2])<|fun w1 H=>?_
 replace H:=H.Ly 1 rfl V2
 simp only [List.set_cons_succ,List.set_cons_zero] at H
 refine bk ?_
 refine cI (fun c4=>?_) (fun c4=>?_)
 ·replace c4:=ZR (c4)
  refine Z6.mk ?_
  refine ⟨want,v1,List.take (st.length-1) st,b,?_⟩
  refine ⟨?_,?_⟩
  ·simp
  refine ⟨?_,?_⟩
  ·exact am5 AG hp AH hx1 AG
  refine ⟨?_,?_⟩
  ·exact hok.Ke hp (by grind)
  refine ⟨?_,?_⟩
  ·simp
  exact H
 replace c4:=ZQ (c4)
 refine br (fun c5=>?_) (fun c5=>?_)
 ·replace c5:=YC (c5)
  refine cI (fun c6=>?_) (fun c6=>?_)
  ·replace c6:=YC (c6)
   refine Z7.mk (Fc.imp (Valid.fail H _) ?_)
   clear H
   rintro v' w2 ⟨X0,⟨h2,H⟩⟩
   refine Z6.mk ?_
   refine ⟨x1,v1,List.take (st.length-1) st,X0,?_⟩
   refine ⟨?_,?_⟩
   ·simp
   refine ⟨?_,?_⟩
   ·exact am6 AG hp AH hx1 AG AG AG AG
   refine ⟨?_,?_⟩
   ·exact hok.Ke hp (by grind)
   refine ⟨?_,?_⟩
   ·simp
   exact H
  replace c6:=YB (c6)
  refine Z6.mk ?_
  refine ⟨x1,v1,List.take (st.length-1) st,b,?_⟩
  refine ⟨?_,?_⟩
  ·simp
  refine ⟨?_,?_⟩
  ·exact akL AG hp AH hx1 AG AH
  refine ⟨?_,?_⟩
  ·exact hok.Ke hp (by grind)
  refine ⟨?_,?_⟩
  ·simp
  exact H
 replace c5:=YB (c5)
 refine cF rfl<|Z6.mk ?_
 refine ⟨x1,v1,List.take (st.length-1) st,b,?_⟩
 refine ⟨?_,?_⟩
 ·simp
 refine ⟨?_,?_⟩
 ·exact akL AG hp AH hx1 AG AH
 refine ⟨?_,?_⟩
 ·exact hok.Ke hp (by grind)
 refine ⟨?_,?_⟩
 ·simp
 exact H
end
end Go.Proofs.YtakpnepblgfknaaGreatDoor.Valid
namespace Go.Proofs.YtakpnepblgfknaaGreatDoor.Valid
open Go YW Go.RowKit
open YU Zm X7 YN
section
variable {g:Zy} {w:World} {l:List As} {pc:Nat} {m:Zg} {vl vs vo:Value} {st:List Int} {op:List ZC} {b:Int}
theorem ack {st:List Int} {b:Int}:TX ⟨st,[],b⟩=false:=if_pos rfl
theorem adx {p:ZC} (hp:op[op.length-1]?=some p):TX ⟨st,op,b⟩=(p.dead || p.under):=by
 have hne:op≠[]:=by grind
 unfold TX
 rw [if_neg hne,Wc hp]
theorem Jt {o k:Int} {u:Bool} (h:TX ⟨st,op,b⟩=u):Is (V4 ⟨st,op,b⟩ o k) ⟨st,op++[⟨o,k,st.length,false,u⟩],b⟩:=by grind [Is,V4]
theorem Xo (H:Sat g w (Pt pc (AE m [vl,vs,vo,AB b]) 241::Sl 97 1 YH vs st::Sl 246 5 Yp vo op::l)) (o k:Int) (hop:op.length≤100) (hst:st.length≤100000) (hok:Xv st op):Fc Tryz.prog 131 #[AA pc,.int .u8 o,.int .u8 k] w (fun r w'=>∃S8 op',Is (V4 ⟨st,op,b⟩ o k) ⟨st,op',b⟩∧Xv st op'∧op'.length=op.length+1∧Sat g w' (Pt pc (AE m [vl,vs,S8,AB b]) 241::Sl 97 1 YH vs st::Sl 246 5 Yp S8 op'::l)):=by
 rcases lNb op.length with h0|h0
 ·obtain rfl:=lma h0
  refine Fc.of Tryz.func131 rfl k_d<|Z9 rfl<|Z5 (H.at 0 rfl) 13 rfl rfl rfl<|YO H 2 rfl rfl<|cF (Zt AH)<|ZN H [] [Azp0,Azp1,Azp2,Azp3,Azh4,Azp5,Azp6,Azp7,Azp8,Azp9,Azh10,Azp11,Azp12,Azp13,Azf14,Azfr15,Azp16,Azp17,Azfr18] mixed k_d k_d<|fun w1 H=>tk (fun _ Z=>Z9 rfl AD)<|tk (fun _ Z=>Z5 (Z.at 0 rfl) 13 rfl rfl rfl AD)<|tk (fun _ Z=>Z9 rfl AD)<|tk (fun _ Z=>Z5 (Z.at 0 rfl) 12 rfl rfl rfl AD) ?_
  obtain ⟨a1,c1,V1⟩:=H.form 1 rfl
  refine tk (fun _ Z=>XN V1 rfl AD)<|tk (fun _ Z=>Zj rfl rfl rfl AD)<|ZZ H rfl rfl rfl rfl<|fun p1 w2 H=>YZ.mk (H.drop 0 (fun H=>H))<|Wr (ys:=[⟨_,_,_,_,_⟩]) 24 H 3 rfl (H.at 0 rfl) rfl (fun y _=>rfl) rfl rfl rfl AH AH<|fun v1=>?_
  intro w1 H
  refine tk (fun _ Z=>Z9 rfl AD)<|XS H 1 rfl rfl rfl (H.one 3 rfl)<|fun w2 H=>Z6.mk ?_
  refine ⟨v1,[]++[{ op:=o,kind:=k,base:=st.length,dead:=false,under:=false }],?_⟩
  refine ⟨?_,?_⟩
  ·exact Jt ack
  refine ⟨?_,?_⟩
  ·exact hok.Xo _ _ _ _
  refine ⟨rfl,?_⟩
  refine H.Z8 [3,3,3]<|fun H=>H.drop 3<|fun H=>?_
  exact H
 ·obtain ⟨p,hp⟩:∃p,op[op.length-1]?=some p:=⟨_,laa AH⟩
  have hu:=adx (st:=st) (b:=b) hp
  cases hd:p.dead
  ·rw [hd] at hu
   refine Fc.of Tryz.func131 rfl k_d<|Z9 rfl<|Z5 (H.at 0 rfl) 13 rfl rfl rfl<|YO H 2 rfl rfl<|cT (Zi AH) ?_
   refine Z7.mk (Fc.imp (Valid.top H _ hp AH AH) ?_)
   clear H
   rintro _ w1 ⟨GG,⟨Eu,⟨rfl,⟨h1,H⟩⟩⟩⟩
   refine Z9 rfl<|Z5 (H.el 2 rfl h1 hp) 3 rfl rfl rfl<|X8 (AG) ?_
   refine Z7.mk (Fc.imp (Valid.top H _ hp AH AH) ?_)
   clear H
   rintro _ w2 ⟨b02,⟨o02,⟨rfl,⟨h2,H⟩⟩⟩⟩
   refine Z9 rfl<|Z5 (H.el 2 rfl h2 hp) 4 rfl rfl rfl<|ZN H [] [Azp0,Azp1,Azp2,Azp3,Azh4,Azp5,Azp6,Azp7,Azp8,Azp9,Azh10,Azp11,Azp12,Azp13,Azf14,Azfr15,Azp16,Azp17,Azfr18] mixed k_d k_d<|fun w3 H=>tk (fun _ Z=>Z9 rfl AD)<|tk (fun _ Z=>Z5 (Z.at 0 rfl) 13 rfl rfl rfl AD)<|tk (fun _ Z=>Z9 rfl AD)<|tk (fun _ Z=>Z5 (Z.at 0 rfl) 12 rfl rfl rfl AD) ?_
   obtain ⟨a1,c1,V1⟩:=H.form 1 rfl
   refine tk (fun _ Z=>XN V1 rfl AD)<|tk (fun _ Z=>Zj rfl rfl rfl AD)<|ZZ H rfl rfl rfl rfl<|fun p1 w2 H=>YZ.mk (H.drop 0 (fun H=>H))<|Wr (ys:=[⟨_,_,_,_,_⟩]) 24 H 3 rfl (H.at 0 rfl) rfl (fun y _=>rfl) rfl rfl rfl AH AH<|fun v1=>?_
   intro w3 H
   refine tk (fun _ Z=>Z9 rfl AD)<|XS H 1 rfl rfl rfl (H.one 3 rfl)<|fun w2 H=>Z6.mk ?_
   refine ⟨v1,op++[{ op:=o,kind:=k,base:=st.length,dead:=false,under:=p.5 }],?_⟩
   refine ⟨?_,?_⟩
   ·exact Jt hu
   refine ⟨?_,?_⟩
   ·exact hok.Xo _ _ _ _
   refine ⟨?_,?_⟩
   ·simp
   refine H.Z8 [3,3,3]<|fun H=>H.drop 3<|fun H=>?_
   exact H
  ·rw [hd] at hu
   refine Fc.of Tryz.func131 rfl k_d<|Z9 rfl<|Z5 (H.at 0 rfl) 13 rfl rfl rfl<|YO H 2 rfl rfl<|cT (Zi AH) ?_
   refine Z7.mk (Fc.imp (Valid.top H _ hp AH AH) ?_)
   clear H
   rintro _ w1 ⟨GG,⟨Eu,⟨rfl,⟨h1,H⟩⟩⟩⟩
   refine Z9 rfl<|Z5 (H.el 2 rfl h1 hp) 3 rfl rfl rfl<|VM (AG)<|ZN H [] [Azp0,Azp1,Azp2,Azp3,Azh4,Azp5,Azp6,Azp7,Azp8,Azp9,Azh10,Azp11,Azp12,Azp13,Azf14,Azfr15,Azp16,Azp17,Azfr18] mixed k_d k_d<|fun w2 H=>tk (fun _ Z=>Z9 rfl AD)<|tk (fun _ Z=>Z5 (Z.at 0 rfl) 13 rfl rfl rfl AD)<|tk (fun _ Z=>Z9 rfl AD)<|tk (fun _ Z=>Z5 (Z.at 0 rfl) 12 rfl rfl rfl AD) ?_
   obtain ⟨a1,c1,V1⟩:=H.form 1 rfl
   refine tk (fun _ Z=>XN V1 rfl AD)<|tk (fun _ Z=>Zj rfl rfl rfl AD)<|ZZ H rfl rfl rfl rfl<|fun p1 w1 H=>YZ.mk (H.drop 0 (fun H=>H))<|Wr (ys:=[⟨_,_,_,_,_⟩]) 24 H 3 rfl (H.at 0 rfl) rfl (fun y _=>rfl) rfl rfl rfl AH AH<|fun v1=>?_
   intro w2 H
   refine tk (fun _ Z=>Z9 rfl AD)<|XS H 1 rfl rfl rfl (H.one 3 rfl)<|fun w1 H=>Z6.mk ?_
   refine ⟨v1,op++[{ op:=o,kind:=k,base:=st.length,dead:=false,under:=true }],?_⟩
   refine ⟨?_,?_⟩
   ·exact Jt hu
   refine ⟨?_,?_⟩
   ·exact hok.Xo _ _ _ _
   refine ⟨?_,?_⟩
   ·simp
   refine H.Z8 [3,3,3]<|fun H=>H.drop 3<|fun H=>?_
   exact H
theorem am7 {p:ZC} (hp:op[op.length-1]?=some p):Is (UO ⟨st,op,b⟩) ⟨st.take p.base,op.set (op.length-1) ⟨p.op,p.kind,p.base,true,p.under⟩,b⟩:=by grind [Is,UO,Wc]
theorem die (H:Sat g w (Pt pc (AE m [vl,vs,vo,AB b]) 241::Sl 97 1 YH vs st::Sl 246 5 Yp vo op::l)) (hn:0<op.length) (hop:op.length≤100) (hst:st.length≤100000) (hok:Xv st op):Fc Tryz.prog 214 #[AA pc] w (fun r w'=>∃vs' st' op',Is (UO ⟨st,op,b⟩) ⟨st',op',b⟩∧Xv st' op'∧st'.length≤st.length∧op'.length=op.length∧Sat g w' (Pt pc (AE m [vl,vs',vo,AB b]) 241::Sl 97 1 YH vs' st'::Sl 246 5 Yp vo op'::l)):=by
 obtain ⟨p,hp⟩:∃p,op[op.length-1]?=some p:=⟨_,laa AH⟩
 have hle:=hok.le p hp
 refine Fc.of Tryz.func214 rfl k_d ?_
 refine Z7.mk (Fc.imp (Valid.top H _ hp AH AH) ?_)
 clear H
 rintro _ w1 ⟨GG,⟨Eu,⟨rfl,⟨h1,H⟩⟩⟩⟩
 refine ZN H [] [Azp0,Azp1,Azp2,Azp3,Azh4,Azp5,Azp6,Azp7,Azh8,Azp9,Azp10,Azp11,Azfr12] mixed k_d k_d<|fun w2 H=>tk (fun _ Z=>Z9 rfl AD)<|tk (fun _ Z=>Z5 (Z.at 0 rfl) 12 rfl rfl rfl AD)<|tk (fun _ Z=>Z9 rfl AD)<|tk (fun _ Z=>Z5 (Z.el 2 rfl h1 hp) 2 rfl rfl rfl AD) ?_
 obtain ⟨v1,V1⟩:=H.vw 1 rfl (0) ((p.base)) AH AH
 refine tk (fun _ Z=>VI V1 rfl rfl (.inl AD) (.inr ⟨_,by first|rfl|(congr 2;omega)⟩) AD)<|tk (fun _ Z=>Z9 rfl AD)<|XS H 0 rfl rfl rfl (by simp only [Bool.and_true,H.one 1 rfl,H.one 2 rfl,Vw.one V1])<|fun w1 H=>Z9 rfl<|Yz H 2 rfl h1 hp 3 ⟨p.op,p.kind,p.base,true,p.under⟩ rfl rfl rfl rfl<|fun w2 H=>?_
 replace H:=H.Ly 1 rfl V1
 simp only [List.set_cons_succ,List.set_cons_zero] at H
 refine Z6.mk ?_
 refine ⟨v1,List.take p.base st,op.set (op.length-1) { op:=p.op,kind:=p.kind,base:=p.base,dead:=true,under:=p.under },?_⟩
 refine ⟨?_,?_⟩
 ·exact am7 hp
 refine ⟨?_,?_⟩
 ·exact (hok.Ke hp (by grind)).same hp rfl
 refine ⟨?_,?_⟩
 ·grind
 refine ⟨?_,?_⟩
 ·simp
 exact H
end
end Go.Proofs.YtakpnepblgfknaaGreatDoor.Valid
namespace Go.Proofs.YtakpnepblgfknaaGreatDoor.Valid
open Go YW Go.RowKit
open YU Zm X7 YN
section
variable {g:Zy} {w:World} {l:List As} {pc:Nat} {m:Zg} {vl vs vo:Value} {st:List Int} {op:List ZC} {b:Int}
theorem along (p:ZC) (w:World):Fc Tryz.prog 220 #[.agg #[.int .u8 p.op,.int .u8 p.kind,AB (p.base:Int),.bool p.dead,.bool p.under]] w (fun v w'=>(∃k,v=.int .u8 k∧k=Zc p)∧Sat (WC w) w' []):=by
 refine Fc.of Tryz.func220 rfl k_d ?_
 have H:=Sat.start w
 refine ZJ H<|fun p1 w1 H=>Z9 rfl<|Z5 (H.at 0 rfl) 0 rfl rfl rfl ?_
 refine cI (fun c1=>?_) (fun c1=>?_)
 ·replace c1:=ZR (c1)
  refine Z6.mk ?_
  refine ⟨?_,?_⟩
  ·refine ⟨64,?_⟩
   refine ⟨?_,?_⟩
   ·simp
   exact (if_pos AG).symm
  refine H.firsts 0<|fun H=>?_
  exact H
 replace c1:=ZQ (c1)
 refine Z9 rfl<|Z5 (H.at 0 rfl) 1 rfl rfl rfl<|Z6.mk ?_
 refine ⟨?_,?_⟩
 ·refine ⟨p.kind,?_⟩
  refine ⟨?_,?_⟩
  ·simp
  exact (if_neg AG).symm
 refine H.firsts 0<|fun H=>?_
 exact H
theorem SQ {n b':Int} (h:(op.length:Int)≤n) (hf:Is (YA ⟨st,op,b⟩ 8) ⟨st,op,b'⟩):Is (YR ⟨st,op,b⟩ n) (⟨st,op,b'⟩,pz):=by grind [Is,YR]
theorem am8 {k:Nat} {p:ZC} (h:k<op.length) (hp:op[op.length-1-k]?=some p):Is (YR ⟨st,op,b⟩ (k:Int)) (⟨st,op,b⟩,p):=by grind [Is,YR]
theorem out (H:Sat g w (Pt pc (AE m [vl,vs,vo,AB b]) 241::Sl 97 1 YH vs st::Sl 246 5 Yp vo op::l)) (n:Int) (h0:0≤n∧n≤9223372036854775807) (hop:op.length≤100):Fc Tryz.prog 219 #[AA pc,AB n] w (fun r w'=>∃b' p,r=.agg #[.int .u8 p.op,.int .u8 p.kind,AB (p.base:Int),.bool p.dead,.bool p.under]∧Is (YR ⟨st,op,b⟩ n) (⟨st,op,b'⟩,p)∧Sat g w' (Pt pc (AE m [vl,vs,vo,AB b']) 241::Sl 97 1 YH vs st::Sl 246 5 Yp vo op::l)):=by
 obtain ⟨k,rfl⟩:∃k:Nat,n=k:=⟨n.toNat,by omega⟩
 refine Fc.of Tryz.func219 rfl k_d ?_
 rcases lra k op.length with hk|hk
 ·obtain ⟨p,hp⟩:∃p,op[op.length-1-k]?=some p:=⟨_,laa AH⟩
  refine ZU H rfl<|fun p1 w1 H=>Z9 rfl<|Z5 (H.at 1 rfl) 13 rfl rfl rfl<|YO H 3 rfl rfl<|cF (YG AH)<|ZN H [] [Azp0,Azp1,Azp2,Azh3,Azp4,Azp5,Azp6,Azh7,Azp8,Azp9,Azp10,Azp11,Azp12,Azh13,Azfr14] mixed k_d k_d<|fun w2 H=>tk (fun _ Z=>Z9 rfl AD)<|tk (fun _ Z=>Z5 (Z.at 1 rfl) 13 rfl rfl rfl AD)<|tk (fun _ Z=>Z9 rfl AD)<|tk (fun _ Z=>Z5 (Z.at 1 rfl) 13 rfl rfl rfl AD) ?_
  obtain ⟨a1,c1,V1⟩:=H.form 3 rfl
  refine tk (fun _ Z=>XN V1 rfl AD)<|ZY AH<|ZY AH ?_
  obtain ⟨b1,o1,E1⟩:=H.Zf 3 rfl (((op.length)-1)-(k)) AH
  refine tk (fun _ Z=>ZK E1 AH rfl rfl AD)<|tk (fun _ Z=>ZD (Z.el 3 rfl E1 hp) 0 rfl rfl rfl AD)<|ZG H 0 rfl rfl rfl rfl<|fun w1 H=>XG (H.at 0 rfl) 0 rfl rfl rfl ?_
  exact Z6.mk ⟨_,p,rfl,am8 hk hp,H.del 0⟩
 ·refine ZU H rfl<|fun p1 w1 H=>Z9 rfl<|Z5 (H.at 1 rfl) 13 rfl rfl rfl<|YO H 3 rfl rfl<|cT (Yk AH)<|H.Z8 [3,3,3]<|fun H=>?_
  refine Z7.mk (Fc.imp (Valid.fail H _) ?_)
  clear H
  rintro v' w2 ⟨X0,⟨h1,H⟩⟩
  refine Zj rfl rfl rfl<|ZG H 3 rfl rfl rfl rfl<|fun w3 H=>XG (H.at 3 rfl) 0 rfl rfl rfl ?_
  exact Z6.mk ⟨_,pz,rfl,SQ AH AG,H.del 3⟩
theorem aiQ {p:ZC} {k:Int} {st':List Int} {b':Int} (hp:op[op.length-1]?=some p) (h:Is (Zb ⟨st,op,b⟩ p.kind) (⟨st',op,b'⟩,k)) (hl:st'.length=p.base):Is (YM ⟨st,op,b⟩) ⟨st',op,b'⟩:=by
 unfold Is at *
 unfold YM
 rw [Wc hp,←h]
 simp only
 rw [if_neg (fun n=>n hl)]
theorem aiR {p:ZC} {k:Int} {st':List Int} {b' b'':Int} (hp:op[op.length-1]?=some p) (h:Is (Zb ⟨st,op,b⟩ p.kind) (⟨st',op,b'⟩,k)) (hl:st'.length≠p.base) (hf:Is (YA ⟨st',op,b'⟩ 10) ⟨st',op,b''⟩):Is (YM ⟨st,op,b⟩) ⟨st',op,b''⟩:=by
 unfold Is at *
 unfold YM
 rw [Wc hp,←h]
 simp only
 rw [if_pos hl,←hf]
theorem close (H:Sat g w (Pt pc (AE m [vl,vs,vo,AB b]) 241::Sl 97 1 YH vs st::Sl 246 5 Yp vo op::l)) (p:ZC) (hp:op[op.length-1]?=some p) (hn:0<op.length) (hop:op.length≤100) (hst:st.length≤100000) (hok:Xv st op):Fc Tryz.prog 215 #[AA pc] w (fun r w'=>∃vs' st' b',r=.agg #[.int .u8 p.op,.int .u8 p.kind,AB (p.base:Int),.bool p.dead,.bool p.under]∧Is (YM ⟨st,op,b⟩) ⟨st',op,b'⟩∧Xv st' op∧st'.length≤st.length∧Sat g w' (Pt pc (AE m [vl,vs',vo,AB b']) 241::Sl 97 1 YH vs' st'::Sl 246 5 Yp vo op::l)):=by
 refine Fc.of Tryz.func215 rfl k_d<|ZU H rfl<|fun p1 w1 H=>H.Z8 [3,3,3]<|fun H=>?_
 refine Z7.mk (Fc.imp (Valid.top H _ hp AH AH) ?_)
 clear H
 rintro _ w2 ⟨GG,⟨Eu,⟨rfl,⟨h1,H⟩⟩⟩⟩
 refine ZD (H.el 2 rfl h1 hp) 0 rfl rfl rfl<|ZU H rfl<|fun p2 w3 H=>ZG H 0 rfl rfl rfl rfl<|fun w2 H=>Z9 rfl<|Z5 (H.at 0 rfl) 1 rfl rfl rfl<|H.Z8 [3,3,3]<|fun H=>?_
 refine Z7.mk (Fc.imp (Valid.pop H _ AH AH AH AH) ?_)
 clear H
 rintro _ w3 ⟨k1,⟨Zs,⟨Y3,⟨X0,⟨rfl,⟨h2,⟨h3,⟨h4,H⟩⟩⟩⟩⟩⟩⟩⟩
 refine ZN H [] [Azp0,Azp1,Azp2,Azh3,Azp4,Azp5,Azh6,Azp7] mixed k_d k_d<|fun w4 H=>tk (fun _ Z=>Z9 rfl AD)<|tk (fun _ Z=>Z5 (Z.at 0 rfl) 12 rfl rfl rfl AD) ?_
 obtain ⟨a1,c1,V1⟩:=H.form 1 rfl
 refine tk (fun _ Z=>XN V1 rfl AD)<|tk (fun _ Z=>Z9 rfl AD)<|tk (fun _ Z=>Z5 (Z.at 3 rfl) 2 rfl rfl rfl AD) ?_
 refine cI (fun c2=>?_) (fun c2=>?_)
 ·replace c2:=YC (c2)
  refine Z7.mk (Fc.imp (Valid.fail H _) ?_)
  clear H
  rintro v' w3 ⟨JQ,⟨h5,H⟩⟩
  refine ZD (H.at 3 rfl) 0 rfl rfl rfl<|ZG H 4 rfl rfl rfl rfl<|fun w5 H=>XG (H.at 4 rfl) 0 rfl rfl rfl<|Z6.mk ?_
  refine ⟨Zs,Y3,JQ,?_⟩
  refine ⟨rfl,?_⟩
  refine ⟨?_,?_⟩
  ·exact aiR hp AG AH AG
  refine ⟨AH,?_⟩
  refine ⟨AH,?_⟩
  refine H.drop 4<|fun H=>H.drop 3<|fun H=>?_
  exact H
 replace c2:=YB (c2)
 refine ZD (H.at 3 rfl) 0 rfl rfl rfl<|ZG H 4 rfl rfl rfl rfl<|fun w3 H=>XG (H.at 4 rfl) 0 rfl rfl rfl<|Z6.mk ?_
 refine ⟨Zs,Y3,X0,?_⟩
 refine ⟨rfl,?_⟩
 refine ⟨?_,?_⟩
 ·exact aiQ hp AG AH
 refine ⟨AH,?_⟩
 refine ⟨AH,?_⟩
 refine H.drop 4<|fun H=>H.drop 3<|fun H=>?_
 exact H
theorem am9 {a b':Int} {p:ZC} (h:Is (YR ⟨st,op,b⟩ a) (⟨st,op,b'⟩,p)) (hb:b'≠0):Is (Uu ⟨st,op,b⟩ a) ⟨st,op,b'⟩:=by grind [Is,Uu]
theorem ana {a b' b'' k k':Int} {p:ZC} {st':List Int} (h:Is (YR ⟨st,op,b⟩ a) (⟨st,op,b'⟩,p)) (hk:k=Zc p) (hb:b'=0) (h2:Is (Zb ⟨st,op,b'⟩ k) (⟨st',op,b''⟩,k')):Is (Uu ⟨st,op,b⟩ a) ⟨st',op,b''⟩:=by grind [Is,Uu]
theorem way (H:Sat g w (Pt pc (AE m [vl,vs,vo,AB b]) 241::Sl 97 1 YH vs st::Sl 246 5 Yp vo op::l)) (o a bb:Int) (tv:Value) (ha:0≤a∧a≤9223372036854775807) (hn:0<op.length) (hop:op.length≤100) (hst:st.length≤100000) (hok:Xv st op):Fc Tryz.prog 218 #[AA pc,.agg #[.int .u8 o,AB a,AB bb,tv]] w (fun r w'=>∃vs' st' b',Is (Uu ⟨st,op,b⟩ a) ⟨st',op,b'⟩∧Xv st' op∧st'.length≤st.length∧Sat g w' (Pt pc (AE m [vl,vs',vo,AB b']) 241::Sl 97 1 YH vs' st'::Sl 246 5 Yp vo op::l)):=by
 refine Fc.of Tryz.func218 rfl k_d<|ZJ H<|fun p1 w1 H=>Z9 rfl<|Z5 (H.at 0 rfl) 1 rfl rfl rfl<|H.Z8 [3,3,3]<|fun H=>?_
 refine Z7.mk (Fc.imp (Valid.out H _ AH AH) ?_)
 clear H
 rintro _ w2 ⟨X0,⟨p2,⟨rfl,⟨h1,H⟩⟩⟩⟩
 refine Z7.mk (Fc.imp (Valid.along _ _) ?_)
 rintro _ w3 ⟨⟨k1,⟨rfl,h2⟩⟩,H'⟩
 refine H.Yj H' ?_
 clear H H'
 intro H
 refine Z9 rfl<|Z5 (H.at 0 rfl) 14 rfl rfl rfl ?_
 refine cI (fun c1=>?_) (fun c1=>?_)
 ·replace c1:=ZR (c1)
  refine Z7.mk (Fc.imp (Valid.pop H _ AH AH AH AH) ?_)
  clear H
  rintro _ w4 ⟨k2,⟨Zs,⟨Y3,⟨JQ,⟨rfl,⟨h3,⟨h4,⟨h5,H⟩⟩⟩⟩⟩⟩⟩⟩
  refine Z6.mk ?_
  refine ⟨Zs,Y3,JQ,?_⟩
  refine ⟨?_,?_⟩
  ·exact ana h1 h2 AG AG
  refine ⟨AH,?_⟩
  refine ⟨AH,?_⟩
  refine H.drop 3<|fun H=>?_
  exact H
 replace c1:=ZQ (c1)
 refine Z6.mk ?_
 refine ⟨vs,st,X0,?_⟩
 refine ⟨?_,?_⟩
 ·exact am9 h1 AG
 refine ⟨AH,?_⟩
 refine ⟨AH,?_⟩
 refine H.drop 3<|fun H=>?_
 exact H
theorem ahN {xs:List Int} {i:Nat} (h:xs.length≤i):Is (Xm ⟨st,op,b⟩ (xs.drop i)) ⟨st,op,b⟩:=by
 rw [lwa h];rfl
theorem IN {xs:List Int} {i:Nat} {x k b1 b2:Int} {s1 s2:List Int} (hx:xs[i]?=some x) (h:Is (Xm ⟨st,op,b⟩ (xs.drop (i+1))) ⟨s1,op,b1⟩) (h2:Is (Zb ⟨s1,op,b1⟩ x) (⟨s2,op,b2⟩,k)):Is (Xm ⟨st,op,b⟩ (xs.drop i)) ⟨s2,op,b2⟩:=by grind [Is,List.drop_eq_getElem_cons,Xm]
theorem Wf (H:Sat g w (Pt pc (AE m [vl,vs,vo,AB b]) 241::Sl 97 1 YH vs st::Sl 246 5 Yp vo op::l)) (v:Value) (xs:List Int) (hx:Z0 g YH U8 1 v xs) (hl:xs.length≤1000) (hn:0<op.length) (hop:op.length≤100) (hst:st.length≤100000) (hok:Xv st op):Fc Tryz.prog 222 #[AA pc,v] w (fun r w'=>∃vs' st' b',Is (Xm ⟨st,op,b⟩ xs) ⟨st',op,b'⟩∧Xv st' op∧st'.length≤st.length∧Sat g w' (Pt pc (AE m [vl,vs',vo,AB b']) 241::Sl 97 1 YH vs' st'::Sl 246 5 Yp vo op::l)):=by
 refine Fc.of Tryz.func222 rfl k_d<|ZF hx rfl<|ZY AH ?_
 refine Y9.rule (α:=Nat × List Int × Int × Value) (xs.length,st,b,vs) (fun x_=>[(4,AB ((x_.1:Int)-1))]) (fun x_ w_=>(x_.1≤xs.length)∧(Is (Xm ⟨st,op,b⟩ (xs.drop x_.1)) ⟨x_.2.1,op,x_.2.2.1⟩)∧(Xv x_.2.1 op)∧(x_.2.1.length≤st.length)∧Sat g w_ ((Pt pc (AE m [vl,x_.2.2.2,vo,AB x_.2.2.1]) 241::Sl 97 1 YH x_.2.2.2 x_.2.1::Sl 246 5 Yp vo op::l))) (fun x_=>x_.1) ?_ ?_ ?_
 ·exact k_a
 ·try simp only
  refine ⟨AH,?_⟩
  refine ⟨?_,?_⟩
  ·exact ahN (lna _)
  refine ⟨AG,?_⟩
  refine ⟨AH,?_⟩
  exact H
 clear H
 rintro ⟨i,s1,b1,u1⟩ f_ w_ ⟨hi,ht,ho,hs,H⟩
 try simp only at hi ht ho hs H ⊢
 rcases lNb i with h0|h0
 ·subst h0
  refine cF (YG AH)<|Z6.mk ?_
  refine ⟨u1,s1,b1,?_⟩
  refine ⟨AG,?_⟩
  refine ⟨AG,?_⟩
  refine ⟨AG,?_⟩
  exact H
 ·obtain ⟨j,rfl⟩:∃j,i=j+1:=⟨i-1,by omega⟩
  have e:((j+1:Nat):Int)-1=(j:Int):=by omega
  rw [e]
  obtain ⟨k,hk⟩:∃k,xs[j]?=some k:=⟨_,laa AH⟩
  refine cT (Yk AH)<|bk ?_
  obtain ⟨b2,o1,E1,F1,ZL⟩:=Z0.Zf hx hk
  refine ZK E1 rfl rfl rfl<|Z5 (H.Yy F1) 0 rfl rfl rfl ?_
  refine Z7.mk (Fc.imp (Valid.pop H _ AG AG AH AG) ?_)
  clear H
  rintro _ w1 ⟨k1,⟨Zs,⟨Y3,⟨X0,⟨rfl,⟨h1,⟨h2,⟨h3,H⟩⟩⟩⟩⟩⟩⟩⟩
  refine ZY AH ?_
  refine Xl.mk ((j,Y3,X0,Zs)) (ZM rfl (ZX)) ?_ ?_
  ·refine ⟨AH,?_⟩
   refine ⟨?_,?_⟩
   ·exact IN hk ht AG
   refine ⟨AG,?_⟩
   refine ⟨?_,?_⟩
   ·grind
   exact H
  omega
end
end Go.Proofs.YtakpnepblgfknaaGreatDoor.Valid
namespace Go.Proofs.YtakpnepblgfknaaGreatDoor.Valid
open Go YW Go.RowKit
open YU Zm X7 YN
section
variable {g:Zy} {w:World} {l:List As} {pc:Nat} {m:Zg} {vl vs vo:Value} {st:List Int} {op:List ZC} {b:Int}
def GI (st:List Int) (op:List ZC) (b:Int) (xs:List Int) (i:Nat) (s1:List Int):Prop:=WQ ⟨st,op,b⟩ xs=WQ ⟨s1,op,b⟩ (xs.drop i)
theorem GI.zero {xs:List Int}:GI st op b xs 0 st:=rfl
theorem GI.fin {xs:List Int} {i:Nat} {s1:List Int} (h:GI st op b xs i s1) (hi:xs.length≤i):Is (WQ ⟨st,op,b⟩ xs) ⟨s1,op,b⟩:=by
 unfold GI at h;rw [lwa hi] at h;exact h.symm
theorem GI.step {xs:List Int} {i:Nat} {s1 s2:List Int} {x:Int} (h:GI st op b xs i s1) (hx:xs[i]?=some x) (hp:Is (Xj ⟨s1,op,b⟩ x) ⟨s2,op,b⟩):GI st op b xs (i+1) s2:=by grind [GI,Is,List.drop_eq_getElem_cons,WQ]
theorem Tv (H:Sat g w (Pt pc (AE m [vl,vs,vo,AB b]) 241::Sl 97 1 YH vs st::Sl 246 5 Yp vo op::l)) (v:Value) (xs:List Int) (hx:Z0 g YH U8 1 v xs) (hl:xs.length≤1000) (hst:st.length≤90000):Fc Tryz.prog 223 #[AA pc,v] w (fun r w'=>∃vs' st',Is (WQ ⟨st,op,b⟩ xs) ⟨st',op,b⟩∧st.length≤st'.length∧st'.length≤st.length+xs.length∧Sat g w' (Pt pc (AE m [vl,vs',vo,AB b]) 241::Sl 97 1 YH vs' st'::Sl 246 5 Yp vo op::l)):=by
 refine Fc.of Tryz.func223 rfl k_d<|ZF hx rfl ?_
 refine Y9.rule (α:=Nat × List Int × Value) (0,st,vs) (fun x_=>[(8,AB x_.1)]) (fun x_ w_=>(x_.1≤xs.length)∧(GI st op b xs x_.1 x_.2.1)∧(st.length≤x_.2.1.length∧x_.2.1.length≤st.length+x_.1)∧Sat g w_ ((Pt pc (AE m [vl,x_.2.2,vo,AB b]) 241::Sl 97 1 YH x_.2.2 x_.2.1::Sl 246 5 Yp vo op::l))) (fun x_=>xs.length-x_.1) ?_ ?_ ?_
 ·exact k_a
 ·try simp only
  refine ⟨AH,?_⟩
  refine ⟨?_,?_⟩
  ·exact GI.zero
  refine ⟨AH,?_⟩
  exact H
 clear H
 rintro ⟨i,s1,u1⟩ f_ w_ ⟨hi,hg,hs,H⟩
 try simp only at hi hg hs H ⊢
 refine cI (fun c1=>?_) (fun c1=>?_)
 ·replace c1:=YQ (c1)
  refine bk ?_
  obtain ⟨x1,hx1⟩:∃x,(xs)[(i)]?=some x:=⟨_,laa AH⟩
  obtain ⟨b1,o1,E1,F1,ZL⟩:=Z0.Zf hx hx1
  refine ZK E1 rfl rfl rfl<|Z5 (H.Yy F1) 0 rfl rfl rfl ?_
  refine Z7.mk (Fc.imp (Valid.push H _ AH) ?_)
  clear H
  rintro v' w1 ⟨Zs,⟨Y3,⟨h1,⟨h2,⟨h3,H⟩⟩⟩⟩⟩
  refine ZY AH ?_
  refine Xl.mk ((i+1,Y3,Zs)) (Zx rfl AH (ZX)) ?_ ?_
  ·refine ⟨AH,?_⟩
   refine ⟨?_,?_⟩
   ·exact GI.step hg hx1 AG
   refine ⟨?_,?_⟩
   ·grind
   exact H
  omega
 replace c1:=YP (c1)
 refine Z6.mk ?_
 refine ⟨u1,s1,?_⟩
 refine ⟨?_,?_⟩
 ·exact hg.fin AH
 refine ⟨AH,?_⟩
 refine ⟨AH,?_⟩
 exact H
theorem Ll {c c1 c2 c3 c4:Ck} {k1 k2 k3:Int} (h1:Is (Zb c 127) (c1,k1)) (h2:Is (Zb c1 0) (c2,k2)) (h3:Is (Zb c2 k2) (c3,k3)) (h4:Is (Xj c3 k3) c4):Is (Xe c) c4:=by grind [Is,Xe]
theorem choose (H:Sat g w (Pt pc (AE m [vl,vs,vo,AB b]) 241::Sl 97 1 YH vs st::Sl 246 5 Yp vo op::l)) (hn:0<op.length) (hop:op.length≤100) (hst:st.length≤100000) (hok:Xv st op):Fc Tryz.prog 193 #[AA pc] w (fun r w'=>∃vs' st' b',Is (Xe ⟨st,op,b⟩) ⟨st',op,b'⟩∧Xv st' op∧st'.length≤st.length+1∧Sat g w' (Pt pc (AE m [vl,vs',vo,AB b']) 241::Sl 97 1 YH vs' st'::Sl 246 5 Yp vo op::l)):=by
 refine Fc.of Tryz.func193 rfl k_d ?_
 refine Z7.mk (Fc.imp (Valid.pop H _ AH AH AH ?_) ?_)
 ·exact k_k
 clear H
 rintro _ w1 ⟨k1,⟨Zs,⟨Y3,⟨X0,⟨rfl,⟨h1,⟨h2,⟨h3,H⟩⟩⟩⟩⟩⟩⟩⟩
 refine Z7.mk (Fc.imp (Valid.pop H _ AH AH AH ?_) ?_)
 ·exact k_k
 clear H
 rintro _ w2 ⟨k2,⟨VS,⟨U4,⟨JQ,⟨rfl,⟨h4,⟨h5,⟨h6,H⟩⟩⟩⟩⟩⟩⟩⟩
 refine Z7.mk (Fc.imp (Valid.pop H _ AH AH AH ?_) ?_)
 ·exact k_k
 clear H
 rintro _ w3 ⟨k3,⟨F8,⟨F7,⟨DE,⟨rfl,⟨h7,⟨h8,⟨h9,H⟩⟩⟩⟩⟩⟩⟩⟩
 refine Z7.mk (Fc.imp (Valid.push H _ AH) ?_)
 clear H
 rintro v' w4 ⟨anb,⟨anc,⟨h10,⟨h11,⟨h12,H⟩⟩⟩⟩⟩
 refine Z6.mk ?_
 refine ⟨anb,anc,DE,?_⟩
 refine ⟨?_,?_⟩
 ·exact Ll h1 AG AG AG
 refine ⟨?_,?_⟩
 ·exact k_k
 refine ⟨AH,?_⟩
 exact H
def TI (k:Int) (tt:List Int) (c0:Ck) (i:Nat) (c1:Ck) (sm:Bool):Prop:=Xr k tt (c0,true)=Xr k (tt.drop i) (c1,sm)
theorem TI.zero {k:Int} {tt:List Int} {c:Ck}:TI k tt c 0 c true:=rfl
theorem TI.step {k n k2:Int} {tt:List Int} {c c1 c2:Ck} {i:Nat} {sm sm':Bool} {p:ZC} (h:TI k tt c i c1 sm) (hx:tt[i]?=some n) (ho:Is (YR c1 n) (c2,p)) (hk:k2=Zc p) (hs:sm'=(decide (k2=k) && sm)):TI k tt c (i+1) c2 sm':=by grind [TI,Is,List.drop_eq_getElem_cons,Xr]
theorem TI.fin {k:Int} {tt:List Int} {c c1:Ck} {i:Nat} {sm:Bool} (h:TI k tt c i c1 sm) (hi:tt.length≤i):Xr k tt (c,true)=(c1,sm):=by
 unfold TI at h;rw [lwa hi] at h;exact h
theorem aiS {c c0 c1:Ck} {a k:Int} {tt:List Int} {p:ZC} {sm:Bool} (h:Is (YR c a) (c0,p)) (hk:k=Zc p) (hw:Xr k tt (c0,true)=(c1,sm)) (hb:c1.bad≠0):Is (XT c a tt) c1:=by grind [Is,XT]
theorem aeM {c c0 c1 c2 c3 c4:Ck} {a k k3 k4:Int} {tt:List Int} {p:ZC} {sm:Bool} (h:Is (YR c a) (c0,p)) (hk:k=Zc p) (hw:Xr k tt (c0,true)=(c1,sm)) (hb:c1.bad=0) (h2:c2=if sm=true then c1 else YA c1 10) (h3:Is (Zb c2 127) (c3,k3)) (h4:Is (Zb c3 k) (c4,k4)):Is (XT c a tt) c4:=by grind [Is,XT]
theorem aiT {c c0 c1 c2 c3 c4:Ck} {a k k3 k4:Int} {tt:List Int} {p:ZC} {sm:Bool} (h:Is (YR c a) (c0,p)) (hk:k=Zc p) (hw:Xr k tt (c0,true)=(c1,sm)) (hb:c1.bad=0) (hs:sm=false) (h2:Is (YA c1 10) c2) (h3:Is (Zb c2 127) (c3,k3)) (h4:Is (Zb c3 k) (c4,k4)):Is (XT c a tt) c4 :=
 aeM h hk hw hb (by rw [if_neg (by grind)];exact h2) h3 h4
theorem table (H:Sat g w (Pt pc (AE m [vl,vs,vo,AB b]) 241::Sl 97 1 YH vs st::Sl 246 5 Yp vo op::l)) (o a bb:Int) (tv:Value) (tt:List Int) (ht:Z0 g ZE Xz 1 tv tt) (ha:0≤a∧a≤9223372036854775807) (hall:∀n∈tt,0≤n∧n≤9223372036854775807) (hn:0<op.length) (hop:op.length≤100) (hst:st.length≤100000) (hok:Xv st op):Fc Tryz.prog 221 #[AA pc,.agg #[.int .u8 o,AB a,AB bb,tv]] w (fun r w'=>∃vs' st' b',Is (XT ⟨st,op,b⟩ a tt) ⟨st',op,b'⟩∧Xv st' op∧st'.length≤st.length∧Sat g w' (Pt pc (AE m [vl,vs',vo,AB b']) 241::Sl 97 1 YH vs' st'::Sl 246 5 Yp vo op::l)):=by
 refine Fc.of Tryz.func221 rfl k_d ?_
 have hlt:=VY.len ht
 refine ZJ H<|fun p1 w1 H=>Z9 rfl<|Z5 (H.at 0 rfl) 1 rfl rfl rfl<|H.Z8 [3,3,3]<|fun H=>?_
 refine Z7.mk (Fc.imp (Valid.out H _ AH AH) ?_)
 clear H
 rintro _ w2 ⟨X0,⟨p2,⟨rfl,⟨h1,H⟩⟩⟩⟩
 refine Z7.mk (Fc.imp (Valid.along _ _) ?_)
 rintro _ w3 ⟨⟨k1,⟨rfl,h2⟩⟩,H'⟩
 refine H.Yj H' ?_
 clear H H'
 intro H
 refine Z9 rfl<|Z5 (H.at 3 rfl) 3 rfl rfl rfl<|ZF ht rfl ?_
 refine Y9.rule (α:=Nat × Int × Bool) (0,X0,true) (fun x_=>[(16,AB x_.1),(5,.bool x_.2.2)]) (fun x_ w_=>(x_.1≤tt.length)∧(TI k1 tt ⟨st,op,X0⟩ x_.1 ⟨st,op,x_.2.1⟩ x_.2.2)∧Sat g w_ ((Pt pc (AE m [vl,vs,vo,AB x_.2.1]) 241::Sl 97 1 YH vs st::Sl 246 5 Yp vo op::Pt p1 [.int .u8 o,AB a,AB bb,tv] 196::l))) (fun x_=>tt.length-x_.1) ?_ ?_ ?_
 ·exact k_a
 ·try simp only
  refine ⟨AH,?_⟩
  refine ⟨?_,?_⟩
  ·exact TI.zero
  exact H
 clear H
 rintro ⟨i,b1,sm⟩ f_ w_ ⟨hi,hT,H⟩
 try simp only at hi hT H ⊢
 rcases lra i tt.length with Oj|hge
 ·obtain ⟨n,hn2⟩:∃n,tt[i]?=some n:=⟨_,laa Oj⟩
  have hnb:=hall n (lda hn2)
  refine cT (Zi AH)<|bk ?_
  obtain ⟨b2,o1,E1,F1,ZL⟩:=Z0.Zf ht hn2
  refine ZK E1 rfl rfl rfl<|Z5 (H.Yy F1) 0 rfl rfl rfl ?_
  refine Z7.mk (Fc.imp (Valid.out H _ AH AH) ?_)
  clear H
  rintro _ w4 ⟨JQ,⟨p3,⟨rfl,⟨h3,H⟩⟩⟩⟩
  refine Z7.mk (Fc.imp (Valid.along _ _) ?_)
  rintro _ w5 ⟨⟨k2,⟨rfl,h4⟩⟩,H'⟩
  refine H.Yj H' ?_
  clear H H'
  intro H
  refine br (fun c1=>?_) (fun c1=>?_)
  ·replace c1:=ZR (c1)
   refine ZY AH ?_
   refine Xl.mk ((i+1,JQ,sm)) (Zx rfl AH (ZM rfl (ZX))) ?_ ?_
   ·refine ⟨AH,?_⟩
    refine ⟨?_,?_⟩
    ·exact TI.step hT hn2 h3 h4 (by grind)
    exact H
   omega
  replace c1:=ZQ (c1)
  refine ZY AH ?_
  refine Xl.mk ((i+1,JQ,false)) (Zx rfl AH (ZM rfl (ZX))) ?_ ?_
  ·refine ⟨AH,?_⟩
   refine ⟨?_,?_⟩
   ·exact TI.step hT hn2 h3 h4 (by grind)
   exact H
  omega
 ·have Gu:=hT.fin hge
  refine cF (Zt AH)<|Z9 rfl<|Z5 (H.at 0 rfl) 14 rfl rfl rfl ?_
  refine cI (fun c1=>?_) (fun c1=>?_)
  ·replace c1:=YC (c1)
   refine Z6.mk ?_
   refine ⟨vs,st,b1,?_⟩
   refine ⟨?_,?_⟩
   ·exact aiS h1 h2 Gu c1
   refine ⟨AH,?_⟩
   refine ⟨AH,?_⟩
   refine H.drop 3<|fun H=>?_
   exact H
  replace c1:=YB (c1)
  refine cI (fun c2=>?_) (fun c2=>?_)
  ·replace c2:=TD (c2)
   refine Z7.mk (Fc.imp (Valid.fail H _) ?_)
   clear H
   rintro v' w4 ⟨JQ,⟨h3,H⟩⟩
   refine Z7.mk (Fc.imp (Valid.pop H _ AH AH AH AH) ?_)
   clear H
   rintro _ w5 ⟨k2,⟨Zs,⟨Y3,⟨DE,⟨rfl,⟨h4,⟨h5,⟨h6,H⟩⟩⟩⟩⟩⟩⟩⟩
   refine Z7.mk (Fc.imp (Valid.pop H _ AH AH AH AH) ?_)
   clear H
   rintro _ w6 ⟨k3,⟨VS,⟨U4,⟨b'4,⟨rfl,⟨h7,⟨h8,⟨h9,H⟩⟩⟩⟩⟩⟩⟩⟩
   refine Z6.mk ?_
   refine ⟨VS,U4,b'4,?_⟩
   refine ⟨?_,?_⟩
   ·exact aiT h1 h2 Gu AG AG AG AG AG
   refine ⟨AH,?_⟩
   refine ⟨AH,?_⟩
   refine H.drop 3<|fun H=>?_
   exact H
  replace c2:=TC (c2)
  refine Z7.mk (Fc.imp (Valid.pop H _ AH AH AH AH) ?_)
  clear H
  rintro _ w4 ⟨k2,⟨Zs,⟨Y3,⟨JQ,⟨rfl,⟨h3,⟨h4,⟨h5,H⟩⟩⟩⟩⟩⟩⟩⟩
  refine Z7.mk (Fc.imp (Valid.pop H _ AH AH AH AH) ?_)
  clear H
  rintro _ w5 ⟨k3,⟨VS,⟨U4,⟨DE,⟨rfl,⟨h6,⟨h7,⟨h8,H⟩⟩⟩⟩⟩⟩⟩⟩
  refine Z6.mk ?_
  refine ⟨VS,U4,DE,?_⟩
  refine ⟨?_,?_⟩
  ·exact aeM h1 h2 Gu AG (if_pos AG).symm AG AG
  refine ⟨AH,?_⟩
  refine ⟨AH,?_⟩
  refine H.drop 3<|fun H=>?_
  exact H
end
end Go.Proofs.YtakpnepblgfknaaGreatDoor.Valid
namespace Go.Proofs.YtakpnepblgfknaaGreatDoor.Valid
open Go YW Go.RowKit
open YU Zm X7 YN
section
variable {g:Zy} {w:World} {l:List As} {pc:Nat} {m:Zg} {vl vs vo:Value} {st:List Int} {op:List ZC} {b:Int}
theorem c0 {c c':Ck} {a bb:Int} {tt:List Int} (h:Is (UO c) c'):Is (Zz c ⟨0,a,bb,tt⟩) c':=by grind [Zz]
theorem c2 {c c':Ck} {a bb:Int} {tt:List Int} (h:Is (V4 c 2 a) c'):Is (Zz c ⟨2,a,bb,tt⟩) c':=by grind [Zz]
theorem c3 {c c':Ck} {a bb:Int} {tt:List Int} (h:Is (V4 c 3 a) c'):Is (Zz c ⟨3,a,bb,tt⟩) c':=by grind [Zz]
theorem c4 {c c1 c':Ck} {k a bb:Int} {tt:List Int} (h1:Is (Zb c 127) (c1,k)) (h:Is (V4 c1 4 a) c'):Is (Zz c ⟨4,a,bb,tt⟩) c':=by grind [Zz,Is]
theorem c12 {c c1 c':Ck} {a bb:Int} {tt:List Int} (h1:Is (Uu c a) c1) (h:Is (UO c1) c'):Is (Zz c ⟨12,a,bb,tt⟩) c':=by grind [Zz,Is]
theorem c13 {c c':Ck} {a bb:Int} {tt:List Int} (h:Is (V0 c a) c'):Is (Zz c ⟨13,a,bb,tt⟩) c':=by grind [Zz]
theorem c15 {c c1 c':Ck} {k a bb:Int} {tt:List Int} {q:ZC} (hq:c.Zn[0]?=some q) (h1:Is (Zb c q.kind) (c1,k)) (h:Is (UO c1) c'):Is (Zz c ⟨15,a,bb,tt⟩) c':=by grind [Zz,Is]
theorem c14 {c c1 c':Ck} {a bb:Int} {tt:List Int} (h1:Is (XT c a tt) c1) (h:Is (UO c1) c'):Is (Zz c ⟨14,a,bb,tt⟩) c':=by grind [Zz,Is]
theorem akM {c c1:Ck} {a:Int} {p:ZC} (h:Is (YR c a) (c1,p)) (hb:c1.bad≠0):Is (V0 c a) c1:=by grind [Is,V0]
theorem akN {c c1 c2 c3 c4:Ck} {a k k2 k3:Int} {p:ZC} (h:Is (YR c a) (c1,p)) (hk:k=Zc p) (hb:c1.bad=0) (h2:Is (Zb c1 127) (c2,k2)) (h3:Is (Zb c2 k) (c3,k3)) (h4:Is (Xj c3 k) c4):Is (V0 c a) c4:=by grind [Is,V0]
theorem Et {a:Int} (h:a=64∨a=127∨a=126):ZO .u8 a=a:=by
 rcases h with rfl|rfl|rfl <;> (unfold ZO;rfl)
theorem ane (H:Sat g w (Pt pc (AE m [vl,vs,vo,AB b]) 241::Sl 97 1 YH vs st::Sl 246 5 Yp vo op::l)) (a bb:Int) (tv:Value) (tt:List Int) (ht:Z0 g ZE Xz 1 tv tt) (hn:0<op.length) (hop:op.length≤99) (hst:st.length≤90000) (hok:Xv st op):Fc Tryz.prog 190 #[AA pc,.agg #[.int .u8 0,AB a,AB bb,tv]] w (fun r w'=>∃vs' S8 st' op' b',Is (Zz ⟨st,op,b⟩ ⟨0,a,bb,tt⟩) ⟨st',op',b'⟩∧Xv st' op'∧st'.length≤st.length+1∧Sat g w' (Pt pc (AE m [vl,vs',S8,AB b']) 241::Sl 97 1 YH vs' st'::Sl 246 5 Yp S8 op'::l)):=by
 obtain ⟨p,hp⟩:∃p,op[op.length-1]?=some p:=⟨_,laa AH⟩
 refine Fc.of Tryz.func190 rfl k_d<|ZJ H<|fun p1 w1 H=>Z9 rfl<|Z5 (H.at 0 rfl) 0 rfl rfl rfl<|bk<|cT (ZI AH)<|H.Z8 [3,3,3]<|fun H=>?_
 refine Z7.mk (Fc.imp (Valid.die H AH AH AH AH) ?_)
 clear H
 rintro v' w2 ⟨Zs,⟨Y3,⟨XQ,⟨h1,⟨h2,⟨h3,⟨h4,H⟩⟩⟩⟩⟩⟩⟩
 refine Z6.mk ?_
 refine ⟨Zs,vo,Y3,XQ,b,?_⟩
 refine ⟨?_,?_⟩
 ·exact c0 AG
 refine ⟨AH,?_⟩
 refine ⟨AH,?_⟩
 refine H.drop 3<|fun H=>?_
 exact H
theorem anf (H:Sat g w (Pt pc (AE m [vl,vs,vo,AB b]) 241::Sl 97 1 YH vs st::Sl 246 5 Yp vo op::l)) (a bb:Int) (tv:Value) (tt:List Int) (ht:Z0 g ZE Xz 1 tv tt) (My:a=64∨a=127∨a=126) (hn:0<op.length) (hop:op.length≤99) (hst:st.length≤90000) (hok:Xv st op):Fc Tryz.prog 190 #[AA pc,.agg #[.int .u8 2,AB a,AB bb,tv]] w (fun r w'=>∃vs' S8 st' op' b',Is (Zz ⟨st,op,b⟩ ⟨2,a,bb,tt⟩) ⟨st',op',b'⟩∧Xv st' op'∧st'.length≤st.length+1∧Sat g w' (Pt pc (AE m [vl,vs',S8,AB b']) 241::Sl 97 1 YH vs' st'::Sl 246 5 Yp S8 op'::l)):=by
 obtain ⟨p,hp⟩:∃p,op[op.length-1]?=some p:=⟨_,laa AH⟩
 refine Fc.of Tryz.func190 rfl k_d ?_
 have GF:=Et My
 refine ZJ H<|fun p1 w1 H=>Z9 rfl<|Z5 (H.at 0 rfl) 0 rfl rfl rfl<|bk<|cF (Z4 AH)<|cT (ZI AH)<|cT (ZI AH)<|Z9 rfl<|Z5 (H.at 0 rfl) 0 rfl rfl rfl<|Z9 rfl<|Z5 (H.at 0 rfl) 1 rfl rfl rfl<|TE AH rfl rfl<|H.Z8 [3,3,3]<|fun H=>?_
 refine Z7.mk (Fc.imp (Valid.Xo H _ _ AH AH AH) ?_)
 clear H
 rintro v' w2 ⟨Xf,⟨XQ,⟨h1,⟨h2,⟨h3,H⟩⟩⟩⟩⟩
 refine Z6.mk ?_
 refine ⟨vs,Xf,st,XQ,b,?_⟩
 refine ⟨?_,?_⟩
 ·exact c2 AG
 refine ⟨AH,?_⟩
 refine ⟨AH,?_⟩
 refine H.drop 3<|fun H=>?_
 exact H
theorem ang (H:Sat g w (Pt pc (AE m [vl,vs,vo,AB b]) 241::Sl 97 1 YH vs st::Sl 246 5 Yp vo op::l)) (a bb:Int) (tv:Value) (tt:List Int) (ht:Z0 g ZE Xz 1 tv tt) (My:a=64∨a=127∨a=126) (hn:0<op.length) (hop:op.length≤99) (hst:st.length≤90000) (hok:Xv st op):Fc Tryz.prog 190 #[AA pc,.agg #[.int .u8 3,AB a,AB bb,tv]] w (fun r w'=>∃vs' S8 st' op' b',Is (Zz ⟨st,op,b⟩ ⟨3,a,bb,tt⟩) ⟨st',op',b'⟩∧Xv st' op'∧st'.length≤st.length+1∧Sat g w' (Pt pc (AE m [vl,vs',S8,AB b']) 241::Sl 97 1 YH vs' st'::Sl 246 5 Yp S8 op'::l)):=by
 obtain ⟨p,hp⟩:∃p,op[op.length-1]?=some p:=⟨_,laa AH⟩
 refine Fc.of Tryz.func190 rfl k_d ?_
 have GF:=Et My
 refine ZJ H<|fun p1 w1 H=>Z9 rfl<|Z5 (H.at 0 rfl) 0 rfl rfl rfl<|bk<|cF (Z4 AH)<|cF (Z4 AH)<|cT (ZI AH)<|Z9 rfl<|Z5 (H.at 0 rfl) 0 rfl rfl rfl<|Z9 rfl<|Z5 (H.at 0 rfl) 1 rfl rfl rfl<|TE AH rfl rfl<|H.Z8 [3,3,3]<|fun H=>?_
 refine Z7.mk (Fc.imp (Valid.Xo H _ _ AH AH AH) ?_)
 clear H
 rintro v' w2 ⟨Xf,⟨XQ,⟨h1,⟨h2,⟨h3,H⟩⟩⟩⟩⟩
 refine Z6.mk ?_
 refine ⟨vs,Xf,st,XQ,b,?_⟩
 refine ⟨?_,?_⟩
 ·exact c3 AG
 refine ⟨AH,?_⟩
 refine ⟨AH,?_⟩
 refine H.drop 3<|fun H=>?_
 exact H
theorem anh (H:Sat g w (Pt pc (AE m [vl,vs,vo,AB b]) 241::Sl 97 1 YH vs st::Sl 246 5 Yp vo op::l)) (a bb:Int) (tv:Value) (tt:List Int) (ht:Z0 g ZE Xz 1 tv tt) (My:a=64∨a=127∨a=126) (hn:0<op.length) (hop:op.length≤99) (hst:st.length≤90000) (hok:Xv st op):Fc Tryz.prog 190 #[AA pc,.agg #[.int .u8 4,AB a,AB bb,tv]] w (fun r w'=>∃vs' S8 st' op' b',Is (Zz ⟨st,op,b⟩ ⟨4,a,bb,tt⟩) ⟨st',op',b'⟩∧Xv st' op'∧st'.length≤st.length+1∧Sat g w' (Pt pc (AE m [vl,vs',S8,AB b']) 241::Sl 97 1 YH vs' st'::Sl 246 5 Yp S8 op'::l)):=by
 obtain ⟨p,hp⟩:∃p,op[op.length-1]?=some p:=⟨_,laa AH⟩
 refine Fc.of Tryz.func190 rfl k_d ?_
 have GF:=Et My
 refine ZJ H<|fun p1 w1 H=>Z9 rfl<|Z5 (H.at 0 rfl) 0 rfl rfl rfl<|bk<|cF (Z4 AH)<|cF (Z4 AH)<|cF (Z4 AH)<|cT (ZI AH)<|H.Z8 [3,3,3]<|fun H=>?_
 refine Z7.mk (Fc.imp (Valid.pop H _ AH AH AH AH) ?_)
 clear H
 rintro _ w2 ⟨k1,⟨Zs,⟨Y3,⟨X0,⟨rfl,⟨h1,⟨h2,⟨h3,H⟩⟩⟩⟩⟩⟩⟩⟩
 refine Z9 rfl<|Z5 (H.at 3 rfl) 0 rfl rfl rfl<|Z9 rfl<|Z5 (H.at 3 rfl) 1 rfl rfl rfl<|TE AH rfl rfl ?_
 refine Z7.mk (Fc.imp (Valid.Xo H _ _ AH AH AH) ?_)
 clear H
 rintro v' w3 ⟨Xf,⟨XQ,⟨h4,⟨h5,⟨h6,H⟩⟩⟩⟩⟩
 refine Z6.mk ?_
 refine ⟨Zs,Xf,Y3,XQ,X0,?_⟩
 refine ⟨?_,?_⟩
 ·exact c4 AG AG
 refine ⟨AH,?_⟩
 refine ⟨AH,?_⟩
 refine H.drop 3<|fun H=>?_
 exact H
theorem akO (H:Sat g w (Pt pc (AE m [vl,vs,vo,AB b]) 241::Sl 97 1 YH vs st::Sl 246 5 Yp vo op::l)) (a bb:Int) (tv:Value) (tt:List Int) (ht:Z0 g ZE Xz 1 tv tt) (ha:0≤a∧a≤9223372036854775807) (hn:0<op.length) (hop:op.length≤99) (hst:st.length≤90000) (hok:Xv st op):Fc Tryz.prog 190 #[AA pc,.agg #[.int .u8 12,AB a,AB bb,tv]] w (fun r w'=>∃vs' S8 st' op' b',Is (Zz ⟨st,op,b⟩ ⟨12,a,bb,tt⟩) ⟨st',op',b'⟩∧Xv st' op'∧st'.length≤st.length+1∧Sat g w' (Pt pc (AE m [vl,vs',S8,AB b']) 241::Sl 97 1 YH vs' st'::Sl 246 5 Yp S8 op'::l)):=by
 obtain ⟨p,hp⟩:∃p,op[op.length-1]?=some p:=⟨_,laa AH⟩
 refine Fc.of Tryz.func190 rfl k_d<|ZJ H<|fun p1 w1 H=>Z9 rfl<|Z5 (H.at 0 rfl) 0 rfl rfl rfl<|bk<|cF (Z4 AH)<|cF (Z4 AH)<|cF (Z4 AH)<|cF (Z4 AH)<|cF (Z4 AH)<|cF (Z4 AH)<|cT (ZI AH)<|ZD (H.at 0 rfl) 0 rfl rfl rfl<|H.Z8 [3,3,3]<|fun H=>?_
 refine Z7.mk (Fc.imp (Valid.way H _ _ _ _ AH AH AH AH AH) ?_)
 clear H
 rintro v' w2 ⟨Zs,⟨Y3,⟨X0,⟨h1,⟨h2,⟨h3,H⟩⟩⟩⟩⟩⟩
 refine Z7.mk (Fc.imp (Valid.die H AH AH AH AH) ?_)
 clear H
 rintro UE w3 ⟨VS,⟨U4,⟨XQ,⟨h4,⟨h5,⟨h6,⟨h7,H⟩⟩⟩⟩⟩⟩⟩
 refine Z6.mk ?_
 refine ⟨VS,vo,U4,XQ,X0,?_⟩
 refine ⟨?_,?_⟩
 ·exact c12 AG AG
 refine ⟨AH,?_⟩
 refine ⟨AH,?_⟩
 refine H.drop 3<|fun H=>?_
 exact H
theorem akP (H:Sat g w (Pt pc (AE m [vl,vs,vo,AB b]) 241::Sl 97 1 YH vs st::Sl 246 5 Yp vo op::l)) (a bb:Int) (tv:Value) (tt:List Int) (ht:Z0 g ZE Xz 1 tv tt) (ha:0≤a∧a≤9223372036854775807) (hn:0<op.length) (hop:op.length≤99) (hst:st.length≤90000) (hok:Xv st op):Fc Tryz.prog 190 #[AA pc,.agg #[.int .u8 13,AB a,AB bb,tv]] w (fun r w'=>∃vs' S8 st' op' b',Is (Zz ⟨st,op,b⟩ ⟨13,a,bb,tt⟩) ⟨st',op',b'⟩∧Xv st' op'∧st'.length≤st.length+1∧Sat g w' (Pt pc (AE m [vl,vs',S8,AB b']) 241::Sl 97 1 YH vs' st'::Sl 246 5 Yp S8 op'::l)):=by
 obtain ⟨p,hp⟩:∃p,op[op.length-1]?=some p:=⟨_,laa AH⟩
 refine Fc.of Tryz.func190 rfl k_d<|ZJ H<|fun p1 w1 H=>Z9 rfl<|Z5 (H.at 0 rfl) 0 rfl rfl rfl<|bk<|cF (Z4 AH)<|cF (Z4 AH)<|cF (Z4 AH)<|cF (Z4 AH)<|cF (Z4 AH)<|cF (Z4 AH)<|cF (Z4 AH)<|cT (ZI AH)<|Z9 rfl<|Z5 (H.at 0 rfl) 1 rfl rfl rfl<|H.Z8 [3,3,3]<|fun H=>?_
 refine Z7.mk (Fc.imp (Valid.out H _ AH AH) ?_)
 clear H
 rintro _ w2 ⟨X0,⟨p2,⟨rfl,⟨h1,H⟩⟩⟩⟩
 refine Z7.mk (Fc.imp (Valid.along _ _) ?_)
 rintro _ w3 ⟨⟨k1,⟨rfl,h2⟩⟩,H'⟩
 refine H.Yj H' ?_
 clear H H'
 intro H
 refine Z9 rfl<|Z5 (H.at 0 rfl) 14 rfl rfl rfl ?_
 refine cI (fun c1=>?_) (fun c1=>?_)
 ·replace c1:=ZR (c1)
  refine Z7.mk (Fc.imp (Valid.pop H _ AH AH AH ?_) ?_)
  ·exact k_k
  clear H
  rintro _ w4 ⟨k2,⟨Zs,⟨Y3,⟨JQ,⟨rfl,⟨h3,⟨h4,⟨h5,H⟩⟩⟩⟩⟩⟩⟩⟩
  refine Z7.mk (Fc.imp (Valid.pop H _ AH AH AH ?_) ?_)
  ·exact k_k
  clear H
  rintro _ w5 ⟨k3,⟨VS,⟨U4,⟨DE,⟨rfl,⟨h6,⟨h7,⟨h8,H⟩⟩⟩⟩⟩⟩⟩⟩
  refine Z7.mk (Fc.imp (Valid.push H _ AH) ?_)
  clear H
  rintro v' w6 ⟨F8,⟨F7,⟨h9,⟨h10,⟨h11,H⟩⟩⟩⟩⟩
  refine Z6.mk ?_
  refine ⟨F8,vo,F7,op,DE,?_⟩
  refine ⟨?_,?_⟩
  ·exact c13 (akN h1 h2 AG AG AG AG)
  refine ⟨?_,?_⟩
  ·exact k_k
  refine ⟨AH,?_⟩
  refine H.drop 3<|fun H=>?_
  exact H
 replace c1:=ZQ (c1)
 refine Z6.mk ?_
 refine ⟨vs,vo,st,op,X0,?_⟩
 refine ⟨?_,?_⟩
 ·exact c13 (akM h1 AG)
 refine ⟨?_,?_⟩
 ·exact k_k
 refine ⟨AH,?_⟩
 refine H.drop 3<|fun H=>?_
 exact H
theorem akQ (H:Sat g w (Pt pc (AE m [vl,vs,vo,AB b]) 241::Sl 97 1 YH vs st::Sl 246 5 Yp vo op::l)) (a bb:Int) (tv:Value) (tt:List Int) (ht:Z0 g ZE Xz 1 tv tt) (hn:0<op.length) (hop:op.length≤99) (hst:st.length≤90000) (hok:Xv st op):Fc Tryz.prog 190 #[AA pc,.agg #[.int .u8 15,AB a,AB bb,tv]] w (fun r w'=>∃vs' S8 st' op' b',Is (Zz ⟨st,op,b⟩ ⟨15,a,bb,tt⟩) ⟨st',op',b'⟩∧Xv st' op'∧st'.length≤st.length+1∧Sat g w' (Pt pc (AE m [vl,vs',S8,AB b']) 241::Sl 97 1 YH vs' st'::Sl 246 5 Yp S8 op'::l)):=by
 obtain ⟨p,hp⟩:∃p,op[op.length-1]?=some p:=⟨_,laa AH⟩
 refine Fc.of Tryz.func190 rfl k_d ?_
 obtain ⟨q,hq⟩:∃q,op[0]?=some q:=⟨_,laa hn⟩
 refine ZJ H<|fun p1 w1 H=>Z9 rfl<|Z5 (H.at 0 rfl) 0 rfl rfl rfl<|bk<|cF (Z4 AH)<|cF (Z4 AH)<|cF (Z4 AH)<|cF (Z4 AH)<|cF (Z4 AH)<|cF (Z4 AH)<|cF (Z4 AH)<|cF (Z4 AH)<|cT (ZI AH)<|Z9 rfl<|Z5 (H.at 1 rfl) 13 rfl rfl rfl ?_
 obtain ⟨b1,o1,E1⟩:=H.Zf 3 rfl 0 AH
 refine ZK E1 rfl rfl rfl<|Z9 rfl<|Z5 (H.el 3 rfl E1 hq) 1 rfl rfl rfl<|H.Z8 [3,3,3]<|fun H=>?_
 refine Z7.mk (Fc.imp (Valid.pop H _ AH AH AH AH) ?_)
 clear H
 rintro _ w2 ⟨k1,⟨Zs,⟨Y3,⟨X0,⟨rfl,⟨h1,⟨h2,⟨h3,H⟩⟩⟩⟩⟩⟩⟩⟩
 refine Z7.mk (Fc.imp (Valid.die H AH AH AH AH) ?_)
 clear H
 rintro v' w3 ⟨VS,⟨U4,⟨XQ,⟨h4,⟨h5,⟨h6,⟨h7,H⟩⟩⟩⟩⟩⟩⟩
 refine Z6.mk ?_
 refine ⟨VS,vo,U4,XQ,X0,?_⟩
 refine ⟨?_,?_⟩
 ·exact c15 hq AG AG
 refine ⟨AH,?_⟩
 refine ⟨AH,?_⟩
 refine H.drop 3<|fun H=>?_
 exact H
theorem akR (H:Sat g w (Pt pc (AE m [vl,vs,vo,AB b]) 241::Sl 97 1 YH vs st::Sl 246 5 Yp vo op::l)) (a bb:Int) (tv:Value) (tt:List Int) (ht:Z0 g ZE Xz 1 tv tt) (ha:0≤a∧a≤9223372036854775807) (hall:∀n∈tt,0≤n∧n≤9223372036854775807) (hn:0<op.length) (hop:op.length≤99) (hst:st.length≤90000) (hok:Xv st op):Fc Tryz.prog 190 #[AA pc,.agg #[.int .u8 14,AB a,AB bb,tv]] w (fun r w'=>∃vs' S8 st' op' b',Is (Zz ⟨st,op,b⟩ ⟨14,a,bb,tt⟩) ⟨st',op',b'⟩∧Xv st' op'∧st'.length≤st.length+1∧Sat g w' (Pt pc (AE m [vl,vs',S8,AB b']) 241::Sl 97 1 YH vs' st'::Sl 246 5 Yp S8 op'::l)):=by
 obtain ⟨p,hp⟩:∃p,op[op.length-1]?=some p:=⟨_,laa AH⟩
 refine Fc.of Tryz.func190 rfl k_d<|ZJ H<|fun p1 w1 H=>Z9 rfl<|Z5 (H.at 0 rfl) 0 rfl rfl rfl<|bk<|cF (Z4 AH)<|cF (Z4 AH)<|cF (Z4 AH)<|cF (Z4 AH)<|cF (Z4 AH)<|cF (Z4 AH)<|cF (Z4 AH)<|cF (Z4 AH)<|cF (Z4 AH)<|cT (ZI AH)<|ZD (H.at 0 rfl) 0 rfl rfl rfl<|H.Z8 [3,3,3]<|fun H=>?_
 refine Z7.mk (Fc.imp (Valid.table H _ _ _ _ _ ht AH AH AH AH AH AH) ?_)
 clear H
 rintro v' w2 ⟨Zs,⟨Y3,⟨X0,⟨h1,⟨h2,⟨h3,H⟩⟩⟩⟩⟩⟩
 refine Z7.mk (Fc.imp (Valid.die H AH AH AH AH) ?_)
 clear H
 rintro UE w3 ⟨VS,⟨U4,⟨XQ,⟨h4,⟨h5,⟨h6,⟨h7,H⟩⟩⟩⟩⟩⟩⟩
 refine Z6.mk ?_
 refine ⟨VS,vo,U4,XQ,X0,?_⟩
 refine ⟨?_,?_⟩
 ·exact c14 AG AG
 refine ⟨AH,?_⟩
 refine ⟨AH,?_⟩
 refine H.drop 3<|fun H=>?_
 exact H
end
end Go.Proofs.YtakpnepblgfknaaGreatDoor.Valid
namespace Go.Proofs.YtakpnepblgfknaaGreatDoor.Valid
open Go YW Go.RowKit
open YU Zm X7 YN
section
variable {g:Zy} {w:World} {l:List As} {pc:Nat} {m:Zg} {vl vs vo:Value} {st:List Int} {op:List ZC} {b:Int}
theorem c5 {c c':Ck} {a bb:Int} {tt:List Int} (h:Is (Vc c) c'):Is (Zz c ⟨5,a,bb,tt⟩) c':=by grind [Zz]
theorem c11 {c c':Ck} {a bb:Int} {tt:List Int} (h:Is (Td c) c'):Is (Zz c ⟨11,a,bb,tt⟩) c':=by grind [Zz]
theorem akS {c c1:Ck} (h:Is (YM c) c1) (hb:c1.bad≠0):Is (Vc c) c1:=by grind [Is,Vc]
theorem akT {b':Int} {st':List Int} {p:ZC} (hp:op[op.length-1]?=some p) (h:Is (YM ⟨st,op,b⟩) ⟨st',op,b'⟩) (hb:b'=0):Is (Vc ⟨st,op,b⟩) ⟨st',op.take (op.length-1)++[⟨5,p.kind,p.base,false,p.under⟩],b'⟩:=by grind [Is,Vc,Wc]
theorem ani (H:Sat g w (Pt pc (AE m [vl,vs,vo,AB b]) 241::Sl 97 1 YH vs st::Sl 246 5 Yp vo op::l)) (a bb:Int) (tv:Value) (tt:List Int) (ht:Z0 g ZE Xz 1 tv tt) (hn:0<op.length) (hop:op.length≤99) (hst:st.length≤90000) (hok:Xv st op):Fc Tryz.prog 190 #[AA pc,.agg #[.int .u8 5,AB a,AB bb,tv]] w (fun r w'=>∃vs' S8 st' op' b',Is (Zz ⟨st,op,b⟩ ⟨5,a,bb,tt⟩) ⟨st',op',b'⟩∧Xv st' op'∧st'.length≤st.length+1∧Sat g w' (Pt pc (AE m [vl,vs',S8,AB b']) 241::Sl 97 1 YH vs' st'::Sl 246 5 Yp S8 op'::l)):=by
 obtain ⟨p,hp⟩:∃p,op[op.length-1]?=some p:=⟨_,laa AH⟩
 refine Fc.of Tryz.func190 rfl k_d<|ZJ H<|fun p1 w1 H=>Z9 rfl<|Z5 (H.at 0 rfl) 0 rfl rfl rfl<|bk<|cF (Z4 AH)<|cF (Z4 AH)<|cF (Z4 AH)<|cF (Z4 AH)<|cT (ZI AH)<|H.Z8 [3,3,3]<|fun H=>?_
 refine Z7.mk (Fc.imp (Valid.close H _ hp AH AH AH AH) ?_)
 clear H
 rintro _ w2 ⟨Zs,⟨Y3,⟨X0,⟨rfl,⟨h1,⟨h2,⟨h3,H⟩⟩⟩⟩⟩⟩⟩
 refine ZU H rfl<|fun p2 w3 H=>ZG H 0 rfl rfl rfl rfl<|fun w2 H=>Z9 rfl<|Z5 (H.at 1 rfl) 14 rfl rfl rfl ?_
 refine cI (fun c1=>?_) (fun c1=>?_)
 rotate_left
 ·replace c1:=ZQ (c1)
  refine Z6.mk ?_
  refine ⟨Zs,vo,Y3,op,X0,?_⟩
  refine ⟨?_,?_⟩
  ·exact c5 (akS h1 AG)
  refine ⟨AH,?_⟩
  refine ⟨AH,?_⟩
  refine H.Z8 [3,3,3]<|fun H=>H.drop 4<|fun H=>H.drop 3<|fun H=>?_
  exact H
 replace c1:=ZR (c1)
 refine ZN H [] [Azp0,Azp1,Azp2,Azp3,Azh4,Azp5,Azp6,Azp7,Azh8,Azp9,Azp10,Azp11,Azp12,Azp13,Azfr14] mixed k_d k_d<|fun w3 H=>tk (fun _ Z=>Z9 rfl AD)<|tk (fun _ Z=>Z5 (Z.at 1 rfl) 13 rfl rfl rfl AD)<|tk (fun _ Z=>Z9 rfl AD)<|tk (fun _ Z=>Z5 (Z.at 1 rfl) 13 rfl rfl rfl AD) ?_
 obtain ⟨a1,c2,V1⟩:=H.form 3 rfl
 refine tk (fun _ Z=>XN V1 rfl AD)<|ZY AH ?_
 obtain ⟨v1,V2⟩:=H.vw 3 rfl (0) (((op.length)-1)) AH AH
 refine tk (fun _ Z=>VI V2 rfl rfl (.inl AD) (.inr ⟨_,by first|rfl|(congr 2;omega)⟩) AD)<|tk (fun _ Z=>Z9 rfl AD)<|XS H 1 rfl rfl rfl k_y<|fun w2 H=>?_
 replace H:=H.Ly 3 rfl V2
 simp only [List.set_cons_succ,List.set_cons_zero] at H
 have hto:(op.take (op.length-1)).length=op.length-1:=by simp
 have Ij:=aeL (p':=⟨5,p.kind,p.base,false,p.under⟩) hp
 refine ZN H [] [Azp0,Azp1,Azp2,Azp3,Azh4,Azp5,Azh6,Azp7,Azh8,Azp9,Azh10,Azp11,Azh12,Azp13,Azf14,Azfr15,Azp16,Azp17,Azfr18] mixed k_d k_d<|fun w3 H=>tk (fun _ Z=>Z9 rfl AD)<|tk (fun _ Z=>Z5 (Z.at 1 rfl) 13 rfl rfl rfl AD)<|tk (fun _ Z=>Z9 rfl AD)<|tk (fun _ Z=>Z5 (Z.at 4 rfl) 0 rfl rfl rfl AD)<|tk (fun _ Z=>Z9 rfl AD)<|tk (fun _ Z=>Z5 (Z.at 0 rfl) 1 rfl rfl rfl AD)<|tk (fun _ Z=>Z9 rfl AD)<|tk (fun _ Z=>Z5 (Z.at 0 rfl) 2 rfl rfl rfl AD)<|tk (fun _ Z=>Z9 rfl AD)<|tk (fun _ Z=>Z5 (Z.at 0 rfl) 4 rfl rfl rfl AD)<|tk (fun _ Z=>Zj rfl rfl rfl AD)<|ZZ H rfl rfl rfl rfl<|fun p3 w2 H=>YZ.mk (H.drop 0 (fun H=>H))<|Wr (ys:=[⟨_,_,_,_,_⟩]) 24 H 4 rfl (H.at 0 rfl) rfl (fun y _=>rfl) rfl rfl rfl AH AH<|fun v2=>?_
 intro w3 H
 refine tk (fun _ Z=>Z9 rfl AD)<|XS H 2 rfl rfl rfl (H.one 4 rfl)<|fun w2 H=>Z6.mk ?_
 refine ⟨Zs,v2,Y3,List.take (op.length-1) op++[{ op:=5,kind:=p.2,base:=p.3,dead:=false,under:=p.5 }],X0,?_⟩
 refine ⟨?_,?_⟩
 ·exact c5 (akT hp h1 AG)
 refine ⟨?_,?_⟩
 ·exact Ij ▸ h2.same hp rfl
 refine ⟨AH,?_⟩
 refine H.Z8 [4,4,4]<|fun H=>H.drop 5<|fun H=>H.drop 4<|fun H=>H.drop 3<|fun H=>?_
 exact H
theorem acI {b':Int} (h:Is (YA ⟨st,op,b⟩ 10) ⟨st,op,b'⟩):b'≠0:=by
 unfold Is YA at h
 split at h
 ·grind
 ·grind
theorem anj {b' b'':Int} {st':List Int} {p:ZC} (hp:op[op.length-1]?=some p) (h:Is (YM ⟨st,op,b⟩) ⟨st',op,b'⟩) (hpk:p.op=4∧p.kind≠64) (h2:Is (YA ⟨st',op,b'⟩ 10) ⟨st',op,b''⟩):Is (Td ⟨st,op,b⟩) ⟨st',op,b''⟩:=by
 have hb:=acI h2
 unfold Is at *;unfold Td;simp only;rw [←h,Wc hp,if_pos hpk,←h2]
 exact (if_neg hb).symm
theorem akU {b':Int} {st':List Int} {p:ZC} (hp:op[op.length-1]?=some p) (h:Is (YM ⟨st,op,b⟩) ⟨st',op,b'⟩) (hpk:¬(p.op=4∧p.kind≠64)) (hb:b'≠0):Is (Td ⟨st,op,b⟩) ⟨st',op,b'⟩:=by
 unfold Is at *;unfold Td;simp only;rw [←h,Wc hp,if_neg hpk]
 exact (if_neg hb).symm
theorem akV {b':Int} {st' akW:List Int} {p:ZC} (hp:op[op.length-1]?=some p) (h:Is (YM ⟨st,op,b⟩) ⟨st',op,b'⟩) (hpk:¬(p.op=4∧p.kind≠64)) (hb:b'=0) (h3:Is (Xj ⟨st',op.take (op.length-1),b'⟩ p.kind) ⟨akW,op.take (op.length-1),b'⟩):Is (Td ⟨st,op,b⟩) ⟨akW,op.take (op.length-1),b'⟩:=by
 unfold Is at *;unfold Td;simp only;rw [←h,Wc hp,if_neg hpk]
 simp only
 rw [if_pos hb,←h3]
theorem akX (H:Sat g w (Pt pc (AE m [vl,vs,vo,AB b]) 241::Sl 97 1 YH vs st::Sl 246 5 Yp vo op::l)) (a bb:Int) (tv:Value) (tt:List Int) (ht:Z0 g ZE Xz 1 tv tt) (hn:0<op.length) (hop:op.length≤99) (hst:st.length≤90000) (hok:Xv st op):Fc Tryz.prog 190 #[AA pc,.agg #[.int .u8 11,AB a,AB bb,tv]] w (fun r w'=>∃vs' S8 st' op' b',Is (Zz ⟨st,op,b⟩ ⟨11,a,bb,tt⟩) ⟨st',op',b'⟩∧Xv st' op'∧st'.length≤st.length+1∧Sat g w' (Pt pc (AE m [vl,vs',S8,AB b']) 241::Sl 97 1 YH vs' st'::Sl 246 5 Yp S8 op'::l)):=by
 obtain ⟨p,hp⟩:∃p,op[op.length-1]?=some p:=⟨_,laa AH⟩
 by_cases hpk:p.op=4∧p.kind≠64
 ·obtain ⟨Cd,ank⟩:=hpk
  refine Fc.of Tryz.func190 rfl k_d<|ZJ H<|fun p1 w1 H=>Z9 rfl<|Z5 (H.at 0 rfl) 0 rfl rfl rfl<|bk<|cF (Z4 AH)<|cF (Z4 AH)<|cF (Z4 AH)<|cF (Z4 AH)<|cF (Z4 AH)<|cT (ZI AH)<|H.Z8 [3,3,3]<|fun H=>?_
  refine Z7.mk (Fc.imp (Valid.close H _ hp AH AH AH AH) ?_)
  clear H
  rintro _ w2 ⟨Zs,⟨Y3,⟨X0,⟨rfl,⟨h1,⟨h2,⟨h3,H⟩⟩⟩⟩⟩⟩⟩
  refine ZU H rfl<|fun p2 w3 H=>ZG H 0 rfl rfl rfl rfl<|fun w2 H=>Z9 rfl<|Z5 (H.at 0 rfl) 0 rfl rfl rfl<|VM (ZI AG)<|Z9 rfl<|Z5 (H.at 0 rfl) 1 rfl rfl rfl<|cT (V6 AG)<|H.Z8 [3,3,3]<|fun H=>?_
  refine Z7.mk (Fc.imp (Valid.fail H _) ?_)
  clear H
  rintro v' w3 ⟨JQ,⟨h4,H⟩⟩
  have hbb:=acI h4
  refine Z9 rfl<|Z5 (H.at 0 rfl) 14 rfl rfl rfl<|cF (Z4 AG)<|Z6.mk ?_
  refine ⟨Zs,vo,Y3,op,JQ,?_⟩
  refine ⟨?_,?_⟩
  ·exact c11 (anj hp h1 ⟨Cd,ank⟩ h4)
  refine ⟨AH,?_⟩
  refine ⟨AH,?_⟩
  refine H.drop 4<|fun H=>H.drop 3<|fun H=>?_
  exact H
 ·refine Fc.of Tryz.func190 rfl k_d<|ZJ H<|fun p1 w1 H=>Z9 rfl<|Z5 (H.at 0 rfl) 0 rfl rfl rfl<|bk<|cF (Z4 AH)<|cF (Z4 AH)<|cF (Z4 AH)<|cF (Z4 AH)<|cF (Z4 AH)<|cT (ZI AH)<|H.Z8 [3,3,3]<|fun H=>?_
  refine Z7.mk (Fc.imp (Valid.close H _ hp AH AH AH AH) ?_)
  clear H
  rintro _ w2 ⟨Zs,⟨Y3,⟨X0,⟨rfl,⟨h1,⟨h2,⟨h3,H⟩⟩⟩⟩⟩⟩⟩
  refine ZU H rfl<|fun p2 w3 H=>ZG H 0 rfl rfl rfl rfl<|fun w2 H=>Z9 rfl<|Z5 (H.at 0 rfl) 0 rfl rfl rfl ?_
  refine br (fun c1=>?_) (fun c1=>?_)
  focus
   replace c1:=ZR (c1)
   refine Z9 rfl<|Z5 (H.at 0 rfl) 1 rfl rfl rfl<|cF (X6 AH)<|Z9 rfl<|Z5 (H.at 1 rfl) 14 rfl rfl rfl ?_
   refine cI (fun c2=>?_) (fun c2=>?_)
   rotate_left
   ·replace c2:=ZQ (c2)
    refine Z6.mk ?_
    refine ⟨Zs,vo,Y3,op,X0,?_⟩
    refine ⟨?_,?_⟩
    ·exact c11 (akU hp h1 hpk AH)
    refine ⟨AH,?_⟩
    refine ⟨AH,?_⟩
    refine H.Z8 [3,3,3]<|fun H=>H.drop 4<|fun H=>H.drop 3<|fun H=>?_
    exact H
   replace c2:=ZR (c2)
   refine ZN H [] [Azp0,Azp1,Azp2,Azp3,Azh4,Azp5,Azp6,Azp7,Azh8,Azp9,Azp10,Azp11,Azp12,Azp13,Azfr14] mixed k_d k_d<|fun w3 H=>tk (fun _ Z=>Z9 rfl AD)<|tk (fun _ Z=>Z5 (Z.at 1 rfl) 13 rfl rfl rfl AD)<|tk (fun _ Z=>Z9 rfl AD)<|tk (fun _ Z=>Z5 (Z.at 1 rfl) 13 rfl rfl rfl AD) ?_
   obtain ⟨a1,c3,V1⟩:=H.form 3 rfl
   refine tk (fun _ Z=>XN V1 rfl AD)<|ZY AH ?_
   obtain ⟨v1,V2⟩:=H.vw 3 rfl (0) (((op.length)-1)) AH AH
   refine tk (fun _ Z=>VI V2 rfl rfl (.inl AD) (.inr ⟨_,by first|rfl|(congr 2;omega)⟩) AD)<|tk (fun _ Z=>Z9 rfl AD)<|XS H 1 rfl rfl rfl k_y<|fun w2 H=>Z9 rfl<|Z5 (H.at 0 rfl) 1 rfl rfl rfl ?_
  rotate_left 1
  focus
   replace c1:=ZQ (c1)
   refine cF rfl<|Z9 rfl<|Z5 (H.at 1 rfl) 14 rfl rfl rfl ?_
   refine cI (fun c2=>?_) (fun c2=>?_)
   rotate_left
   ·replace c2:=ZQ (c2)
    refine Z6.mk ?_
    refine ⟨Zs,vo,Y3,op,X0,?_⟩
    refine ⟨?_,?_⟩
    ·exact c11 (akU hp h1 hpk AH)
    refine ⟨AH,?_⟩
    refine ⟨AH,?_⟩
    refine H.Z8 [3,3,3]<|fun H=>H.drop 4<|fun H=>H.drop 3<|fun H=>?_
    exact H
   replace c2:=ZR (c2)
   refine ZN H [] [Azp0,Azp1,Azp2,Azp3,Azh4,Azp5,Azp6,Azp7,Azh8,Azp9,Azp10,Azp11,Azp12,Azp13,Azfr14] mixed k_d k_d<|fun w3 H=>tk (fun _ Z=>Z9 rfl AD)<|tk (fun _ Z=>Z5 (Z.at 1 rfl) 13 rfl rfl rfl AD)<|tk (fun _ Z=>Z9 rfl AD)<|tk (fun _ Z=>Z5 (Z.at 1 rfl) 13 rfl rfl rfl AD) ?_
   obtain ⟨a1,c3,V1⟩:=H.form 3 rfl
   refine tk (fun _ Z=>XN V1 rfl AD)<|ZY AH ?_
   obtain ⟨v1,V2⟩:=H.vw 3 rfl (0) (((op.length)-1)) AH AH
   refine tk (fun _ Z=>VI V2 rfl rfl (.inl AD) (.inr ⟨_,by first|rfl|(congr 2;omega)⟩) AD)<|tk (fun _ Z=>Z9 rfl AD)<|XS H 1 rfl rfl rfl k_y<|fun w2 H=>Z9 rfl<|Z5 (H.at 0 rfl) 1 rfl rfl rfl ?_
  rotate_left 1
  ·replace H:=H.Ly 3 rfl V2
   simp only [List.set_cons_succ,List.set_cons_zero] at H
   refine H.Z8 [3,3,3]<|fun H=>?_
   refine Z7.mk (Fc.imp (Valid.push H _ AH) ?_)
   clear H
   rintro v' w3 ⟨VS,⟨U4,⟨h4,⟨h5,⟨h6,H⟩⟩⟩⟩⟩
   refine Z6.mk ?_
   refine ⟨VS,v1,U4,List.take (op.length-1) op,X0,?_⟩
   refine ⟨?_,?_⟩
   ·exact c11 (akV hp h1 hpk AG AG)
   refine ⟨?_,?_⟩
   ·exact (h2.more AH).less
   refine ⟨AH,?_⟩
   refine H.drop 4<|fun H=>H.drop 3<|fun H=>?_
   exact H
  ·replace H:=H.Ly 3 rfl V2
   simp only [List.set_cons_succ,List.set_cons_zero] at H
   refine H.Z8 [3,3,3]<|fun H=>?_
   refine Z7.mk (Fc.imp (Valid.push H _ AH) ?_)
   clear H
   rintro v' w3 ⟨VS,⟨U4,⟨h4,⟨h5,⟨h6,H⟩⟩⟩⟩⟩
   refine Z6.mk ?_
   refine ⟨VS,v1,U4,List.take (op.length-1) op,X0,?_⟩
   refine ⟨?_,?_⟩
   ·exact c11 (akV hp h1 hpk AG AG)
   refine ⟨?_,?_⟩
   ·exact (h2.more AH).less
   refine ⟨AH,?_⟩
   refine H.drop 4<|fun H=>H.drop 3<|fun H=>?_
   exact H
end
end Go.Proofs.YtakpnepblgfknaaGreatDoor.Valid
namespace Go.Proofs.YtakpnepblgfknaaGreatDoor.Valid
open Go YW Go.RowKit
open YU Zm X7 YN
theorem acJ (o:Int) (w:World):Fc Tryz.prog 236 #[.int .u8 o] w (fun v w'=>(∃r,v=.int .u8 r∧r=TW o)∧w=w'):=by
 refine Fc.of Tryz.func236 rfl k_d ?_
 have H:=Sat.start w
 refine bk ?_
 refine cI (fun c1=>?_) (fun c1=>?_)
 ·replace c1:=ZR (c1)
  refine cT (ZI AG)<|Z6.mk ?_
  refine ⟨?_,?_⟩
  ·refine ⟨127,?_⟩
   refine ⟨?_,?_⟩
   ·simp
   exact (if_pos AH).symm
  rfl
 replace c1:=ZQ (c1)
 refine cI (fun c2=>?_) (fun c2=>?_)
 ·replace c2:=ZR (c2)
  refine cT (ZI AG)<|Z6.mk ?_
  refine ⟨?_,?_⟩
  ·refine ⟨127,?_⟩
   refine ⟨?_,?_⟩
   ·simp
   exact (if_pos AH).symm
  rfl
 replace c2:=ZQ (c2)
 refine cI (fun c3=>?_) (fun c3=>?_)
 ·replace c3:=ZR (c3)
  refine cT (ZI AG)<|Z6.mk ?_
  refine ⟨?_,?_⟩
  ·refine ⟨127,?_⟩
   refine ⟨?_,?_⟩
   ·simp
   exact (if_pos AH).symm
  rfl
 replace c3:=ZQ (c3)
 refine cI (fun c4=>?_) (fun c4=>?_)
 ·replace c4:=ZR (c4)
  refine cT (ZI AG)<|Z6.mk ?_
  refine ⟨?_,?_⟩
  ·refine ⟨127,?_⟩
   refine ⟨?_,?_⟩
   ·simp
   exact (if_pos AH).symm
  rfl
 replace c4:=ZQ (c4)
 refine cI (fun c5=>?_) (fun c5=>?_)
 ·replace c5:=ZR (c5)
  refine cT (ZI AG)<|Z6.mk ?_
  refine ⟨?_,?_⟩
  ·refine ⟨127,?_⟩
   refine ⟨?_,?_⟩
   ·simp
   exact (if_pos AH).symm
  rfl
 replace c5:=ZQ (c5)
 refine cI (fun c6=>?_) (fun c6=>?_)
 ·replace c6:=ZR (c6)
  refine cT (ZI AG)<|Z6.mk ?_
  refine ⟨?_,?_⟩
  ·refine ⟨127,?_⟩
   refine ⟨?_,?_⟩
   ·simp
   exact (if_pos AH).symm
  rfl
 replace c6:=ZQ (c6)
 refine cI (fun c7=>?_) (fun c7=>?_)
 ·replace c7:=ZR (c7)
  refine cT (ZI AG)<|Z6.mk ?_
  refine ⟨?_,?_⟩
  ·refine ⟨127,?_⟩
   refine ⟨?_,?_⟩
   ·simp
   exact (if_pos AH).symm
  rfl
 replace c7:=ZQ (c7)
 refine cI (fun c8=>?_) (fun c8=>?_)
 ·replace c8:=ZR (c8)
  refine Z6.mk ?_
  refine ⟨?_,?_⟩
  ·refine ⟨127,?_⟩
   refine ⟨?_,?_⟩
   ·simp
   exact (if_pos AH).symm
  rfl
 replace c8:=ZQ (c8)
 refine Z6.mk ?_
 refine ⟨?_,?_⟩
 ·refine ⟨126,?_⟩
  refine ⟨?_,?_⟩
  ·simp
  exact (if_neg AH).symm
 rfl
section
variable {o k:Int} {xs:List Int} {b:Bool}
theorem anl (h:XY o=(xs,k,b)) (hb:b=true):Xi o=(xs,[k],true):=by grind [Xi]
theorem Js (h:XY o=(xs,k,b)) (hb:b=false):Xi o=if 0<wid o∧o<54 then ([127],[TW o],true) else if 0<wid o then ([127,TW o],[],true) else if o=63 then ([],[127],true) else if o=64 then ([127],[127],true) else if o=65 then ([],[127],true) else if o=66 then ([],[126],true) else ([],[],false):=by grind [Xi]
end
theorem RN (o:Int) (w:World):Fc Tryz.prog 224 #[.int .u8 o] w (fun v w'=>∃u y xs ys q,v=.tuple #[u,y,.bool q]∧Xi o=(xs,ys,q)∧Sat (WC w) w' [Sl 97 1 YH y ys,Sl 97 1 YH u xs]):=by
 refine Fc.of Tryz.func224 rfl k_d ?_
 have H:=Sat.start w
 refine Z7.mk (Fc.imp (YU.LB _ _) ?_)
 rintro _ w1 ⟨u1,⟨k1,⟨b1,⟨Ko,⟨rfl,⟨h1,H'⟩⟩⟩⟩⟩⟩
 refine H.Yj H' ?_
 clear H H'
 intro H
 refine cI (fun c1=>?_) (fun c1=>?_)
 ·refine ZZ H rfl rfl rfl rfl<|fun p1 w2 H=>Z6.mk ?_
  (refine H.WE (n:=1) (en:=YH) (s:=1) 0 rfl [_] rfl rfl (fun _=>rfl) rfl ?_;intro H;exact ⟨_,_,_,_,_,rfl,anl h1 AG,H⟩)
 refine bk ?_
 refine Z7.mk (Fc.imp (YU.width _ _) ?_)
 rintro _ _ ⟨⟨r1,⟨rfl,h2⟩⟩,rfl⟩
 refine br (fun c2=>?_) (fun c2=>?_)
 ·replace c2:=YQ (c2)
  refine cI (fun c3=>?_) (fun c3=>?_)
  ·replace c3:=YQ (c3)
   refine ZZ H rfl rfl rfl rfl<|fun p1 w2 H=>?_
   refine Z7.mk (Fc.imp (Valid.acJ _ _) ?_)
   rintro _ _ ⟨⟨r2,⟨rfl,h3⟩⟩,rfl⟩
   refine ZZ H rfl rfl rfl rfl<|fun p2 w1 H=>Z6.mk ?_
   (refine H.WE (n:=1) (en:=YH) (s:=1) 0 rfl [_] rfl rfl (fun _=>rfl) rfl ?_;intro H;refine H.WE (n:=1) (en:=YH) (s:=1) 1 rfl [_] rfl rfl (fun _=>rfl) rfl ?_;intro H;exact ⟨_,_,_,_,_,rfl,(Js h1 AG).trans (by grind),H.del 2⟩)
  replace c3:=YP (c3)
  refine Z7.mk (Fc.imp (YU.width _ _) ?_)
  rintro _ _ ⟨⟨r2,⟨rfl,h3⟩⟩,rfl⟩
  refine cT (Zi AH) ?_
  refine Z7.mk (Fc.imp (Valid.acJ _ _) ?_)
  rintro _ _ ⟨⟨r3,⟨rfl,h4⟩⟩,rfl⟩
  refine ZZ H rfl rfl rfl rfl<|fun p1 w2 H=>Z6.mk ?_
  (refine H.WE (n:=2) (en:=YH) (s:=1) 0 rfl [_,_] rfl rfl (fun _=>rfl) rfl ?_;intro H;exact ⟨_,_,_,_,_,rfl,(Js h1 AG).trans (by grind),(H.U0 (en:=YH) (s:=1) 97 (fun _=>rfl)).del 2⟩)
 replace c2:=YP (c2)
 refine cF rfl ?_
 refine Z7.mk (Fc.imp (YU.width _ _) ?_)
 rintro _ _ ⟨⟨r2,⟨rfl,h3⟩⟩,rfl⟩
 refine cF (Zt AH) ?_
 refine cI (fun c3=>?_) (fun c3=>?_)
 ·replace c3:=ZR (c3)
  refine ZZ H rfl rfl rfl rfl<|fun p1 w2 H=>Z6.mk ?_
  (refine H.WE (n:=1) (en:=YH) (s:=1) 0 rfl [_] rfl rfl (fun _=>rfl) rfl ?_;intro H;exact ⟨_,_,_,_,_,rfl,(Js h1 AG).trans (by grind),((H.U0 (en:=YH) (s:=1) 97 (fun _=>rfl)).front (j:=1) rfl).del 2⟩)
 replace c3:=ZQ (c3)
 refine cI (fun c4=>?_) (fun c4=>?_)
 ·replace c4:=ZR (c4)
  refine ZZ H rfl rfl rfl rfl<|fun p1 w2 H=>ZZ H rfl rfl rfl rfl<|fun p2 w1 H=>Z6.mk ?_
  (refine H.WE (n:=1) (en:=YH) (s:=1) 0 rfl [_] rfl rfl (fun _=>rfl) rfl ?_;intro H;refine H.WE (n:=1) (en:=YH) (s:=1) 1 rfl [_] rfl rfl (fun _=>rfl) rfl ?_;intro H;exact ⟨_,_,_,_,_,rfl,(Js h1 AG).trans (by grind),H.del 2⟩)
 replace c4:=ZQ (c4)
 refine cI (fun c5=>?_) (fun c5=>?_)
 ·replace c5:=ZR (c5)
  refine ZZ H rfl rfl rfl rfl<|fun p1 w2 H=>Z6.mk ?_
  (refine H.WE (n:=1) (en:=YH) (s:=1) 0 rfl [_] rfl rfl (fun _=>rfl) rfl ?_;intro H;exact ⟨_,_,_,_,_,rfl,(Js h1 AG).trans (by grind),((H.U0 (en:=YH) (s:=1) 97 (fun _=>rfl)).front (j:=1) rfl).del 2⟩)
 replace c5:=ZQ (c5)
 refine cI (fun c6=>?_) (fun c6=>?_)
 ·replace c6:=ZR (c6)
  refine ZZ H rfl rfl rfl rfl<|fun p1 w2 H=>Z6.mk ?_
  (refine H.WE (n:=1) (en:=YH) (s:=1) 0 rfl [_] rfl rfl (fun _=>rfl) rfl ?_;intro H;exact ⟨_,_,_,_,_,rfl,(Js h1 AG).trans (by grind),((H.U0 (en:=YH) (s:=1) 97 (fun _=>rfl)).front (j:=1) rfl).del 2⟩)
 replace c6:=ZQ (c6)
 refine Z6.mk ?_
 exact ⟨_,_,_,_,_,rfl,(Js h1 AG).trans (by grind),((H.U0 (en:=YH) (s:=1) 97 (fun _=>rfl)).U0 (en:=YH) (s:=1) 97 (fun _=>rfl)).del 2⟩
section
variable {g:Zy} {w:World} {l:List As} {pc:Nat} {m:Zg} {vl vs vo:Value} {st:List Int} {op:List ZC} {b:Int}
theorem Jr (v:Value) (xs:List Int) (H:Sat g w (Pt pc (AE m [vl,vs,vo,AB b]) 241::Sl 97 1 YH vs st::Sl 246 5 Yp vo op::Sl 97 1 YH v xs::l)) (hl:xs.length≤1000) (hn:0<op.length) (hop:op.length≤100) (hst:st.length≤90000) (hok:Xv st op):Fc Tryz.prog 222 #[AA pc,v] w (fun r w'=>∃vs' st' b',Is (Xm ⟨st,op,b⟩ xs) ⟨st',op,b'⟩∧Xv st' op∧st'.length≤st.length∧Sat g w' (Pt pc (AE m [vl,vs',vo,AB b']) 241::Sl 97 1 YH vs' st'::Sl 246 5 Yp vo op::Sl 97 1 YH v xs::l)):=by
 refine Fc.of Tryz.func222 rfl k_d<|YO H 3 rfl rfl<|ZY AH ?_
 refine Y9.rule (α:=Nat × List Int × Int × Value) (xs.length,st,b,vs) (fun x_=>[(4,AB ((x_.1:Int)-1))]) (fun x_ w_=>(x_.1≤xs.length)∧(Is (Xm ⟨st,op,b⟩ (xs.drop x_.1)) ⟨x_.2.1,op,x_.2.2.1⟩)∧(Xv x_.2.1 op)∧(x_.2.1.length≤st.length)∧Sat g w_ ((Pt pc (AE m [vl,x_.2.2.2,vo,AB x_.2.2.1]) 241::Sl 97 1 YH x_.2.2.2 x_.2.1::Sl 246 5 Yp vo op::Sl 97 1 YH v xs::l))) (fun x_=>x_.1) ?_ ?_ ?_
 ·exact k_a
 ·try simp only
  refine ⟨AH,?_⟩
  refine ⟨?_,?_⟩
  ·exact ahN (lna _)
  refine ⟨AG,?_⟩
  refine ⟨AH,?_⟩
  exact H
 clear H
 rintro ⟨i,s1,b1,u1⟩ f_ w_ ⟨hi,ht,ho,hs,H⟩
 try simp only at hi ht ho hs H ⊢
 rcases lNb i with h0|h0
 ·subst h0
  refine cF (YG AH)<|Z6.mk ?_
  refine ⟨u1,s1,b1,?_⟩
  refine ⟨AG,?_⟩
  refine ⟨AG,?_⟩
  refine ⟨AG,?_⟩
  exact H
 ·obtain ⟨j,rfl⟩:∃j,i=j+1:=⟨i-1,by omega⟩
  have e:((j+1:Nat):Int)-1=(j:Int):=by omega
  rw [e]
  obtain ⟨k,hk⟩:∃k,xs[j]?=some k:=⟨_,laa AH⟩
  refine cT (Yk AH)<|bk ?_
  obtain ⟨b2,o1,E1⟩:=H.Zf 3 rfl (j) AH
  refine ZK E1 rfl rfl rfl<|Z5 (H.el 3 rfl E1 hk) 0 rfl rfl rfl ?_
  refine Z7.mk (Fc.imp (Valid.pop H _ AG AG AH AG) ?_)
  clear H
  rintro _ w1 ⟨k1,⟨Zs,⟨Y3,⟨X0,⟨rfl,⟨h1,⟨h2,⟨h3,H⟩⟩⟩⟩⟩⟩⟩⟩
  refine ZY AH ?_
  refine Xl.mk ((j,Y3,X0,Zs)) (ZM rfl (ZX)) ?_ ?_
  ·refine ⟨AH,?_⟩
   refine ⟨?_,?_⟩
   ·exact IN hk ht AG
   refine ⟨AG,?_⟩
   refine ⟨?_,?_⟩
   ·grind
   exact H
  omega
theorem Jq (v:Value) (xs:List Int) (H:Sat g w (Pt pc (AE m [vl,vs,vo,AB b]) 241::Sl 97 1 YH vs st::Sl 246 5 Yp vo op::Sl 97 1 YH v xs::l)) (hl:xs.length≤1000) (hst:st.length≤90000):Fc Tryz.prog 223 #[AA pc,v] w (fun r w'=>∃vs' st',Is (WQ ⟨st,op,b⟩ xs) ⟨st',op,b⟩∧st.length≤st'.length∧st'.length≤st.length+xs.length∧Sat g w' (Pt pc (AE m [vl,vs',vo,AB b]) 241::Sl 97 1 YH vs' st'::Sl 246 5 Yp vo op::Sl 97 1 YH v xs::l)):=by
 refine Fc.of Tryz.func223 rfl k_d<|YO H 3 rfl rfl ?_
 refine Y9.rule (α:=Nat × List Int × Value) (0,st,vs) (fun x_=>[(8,AB x_.1)]) (fun x_ w_=>(x_.1≤xs.length)∧(GI st op b xs x_.1 x_.2.1)∧(st.length≤x_.2.1.length∧x_.2.1.length≤st.length+x_.1)∧Sat g w_ ((Pt pc (AE m [vl,x_.2.2,vo,AB b]) 241::Sl 97 1 YH x_.2.2 x_.2.1::Sl 246 5 Yp vo op::Sl 97 1 YH v xs::l))) (fun x_=>xs.length-x_.1) ?_ ?_ ?_
 ·exact k_a
 ·try simp only
  refine ⟨AH,?_⟩
  refine ⟨?_,?_⟩
  ·exact GI.zero
  refine ⟨AH,?_⟩
  exact H
 clear H
 rintro ⟨i,s1,u1⟩ f_ w_ ⟨hi,hg,hs,H⟩
 try simp only at hi hg hs H ⊢
 refine cI (fun c1=>?_) (fun c1=>?_)
 ·replace c1:=YQ (c1)
  refine bk ?_
  obtain ⟨x1,hx1⟩:∃x,(xs)[(i)]?=some x:=⟨_,laa AH⟩
  obtain ⟨b1,o1,E1⟩:=H.Zf 3 rfl (i) AH
  refine ZK E1 rfl rfl rfl<|Z5 (H.el 3 rfl E1 hx1) 0 rfl rfl rfl ?_
  refine Z7.mk (Fc.imp (Valid.push H _ AH) ?_)
  clear H
  rintro v' w1 ⟨Zs,⟨Y3,⟨h1,⟨h2,⟨h3,H⟩⟩⟩⟩⟩
  refine ZY AH ?_
  refine Xl.mk ((i+1,Y3,Zs)) (Zx rfl AH (ZX)) ?_ ?_
  ·refine ⟨AH,?_⟩
   refine ⟨?_,?_⟩
   ·exact GI.step hg hx1 AG
   refine ⟨?_,?_⟩
   ·grind
   exact H
  omega
 replace c1:=YP (c1)
 refine Z6.mk ?_
 refine ⟨u1,s1,?_⟩
 refine ⟨?_,?_⟩
 ·exact hg.fin AH
 refine ⟨AH,?_⟩
 refine ⟨AH,?_⟩
 exact H
end
end Go.Proofs.YtakpnepblgfknaaGreatDoor.Valid
