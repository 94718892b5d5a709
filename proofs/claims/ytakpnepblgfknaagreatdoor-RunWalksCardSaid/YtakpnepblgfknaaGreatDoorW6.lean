/- Texts of this claim, one behind the other. -/
import Derived.Test.YtakpnepblgfknaaGreatDoorW4
import Derived.Shelf.Unicode.ValidAny
import Derived.Ground.NamesProg
import Derived.Test.YtakpnepblgfknaaGreatDoorProg
set_option maxRecDepth 100000
set_option maxHeartbeats 4000000
set_option linter.unusedVariables false
set_option linter.unusedSimpArgs false
set_option linter.defProp false
namespace Go.Proofs
open Go.Shelf
def Tryz.WC : Go.Shelf.Ren := ⟨fun | 196 => 233 | 259 => 253 | n => n, fun | 9 => 9 | 4 => 4 | 3 => 3 | 5 => 5 | 12 => 12 | 119 => 222 | 0 => 0 | 46 => 266 | 139 => 344 | 138 => 343 | 53 => 226 | n => n, fun | 3 => 0 | 4 => 1 | n => n⟩
theorem Tryz.acL : Go.Proofs.Lays.n196 Tryz.prog Tryz.WC := {
 mixed := by kernel_rfl
 f196 := Tryz.func233.trans (congrArg some (by kernel_rfl))
 f259 := Tryz.func253.trans (congrArg some (by kernel_rfl))
 t0 := Tryz.underlying0
 a0 := Tryz.isAgg0
 z0 := Tryz.sizeOf0
 v0 := Tryz.zeroValue0
 t3 := Tryz.underlying3
 a3 := Tryz.isAgg3
 z3 := Tryz.sizeOf3
 v3 := Tryz.zeroValue3
 t4 := Tryz.underlying4
 a4 := Tryz.isAgg4
 z4 := Tryz.sizeOf4
 v4 := Tryz.zeroValue4
 t5 := Tryz.underlying5
 a5 := Tryz.isAgg5
 z5 := Tryz.sizeOf5
 v5 := Tryz.zeroValue5
 t9 := Tryz.underlying9
 a9 := Tryz.isAgg9
 z9 := Tryz.sizeOf9
 v9 := Tryz.zeroValue9
 t12 := Tryz.underlying12
 a12 := Tryz.isAgg12
 z12 := Tryz.sizeOf12
 v12 := Tryz.zeroValue12
 t46 := Tryz.underlying266
 a46 := Tryz.isAgg266
 z46 := Tryz.sizeOf266
 v46 := Tryz.zeroValue266
 t53 := Tryz.underlying226
 a53 := Tryz.isAgg226
 z53 := Tryz.sizeOf226
 v53 := Tryz.zeroValue226
 t119 := Tryz.underlying222
 a119 := Tryz.isAgg222
 z119 := Tryz.sizeOf222
 t138 := Tryz.underlying343
 a138 := Tryz.isAgg343
 z138 := Tryz.sizeOf343
 v138 := Tryz.zeroValue343
 t139 := Tryz.underlying344
 a139 := Tryz.isAgg344
 z139 := Tryz.sizeOf344
 v139 := Tryz.zeroValue344
 g3 := by kernel_rfl
 g4 := by kernel_rfl }
open Go.RowKit Go.Lib in
theorem Tryz.utf8_ValidString (s : ByteArray) (w : World) (hs : s.size <= 9223372036854775807) (hT : Lib.Utf8Tabs (Tryz.WC.g 3) (Tryz.WC.g 4) w) :
  Calls Tryz.prog (Tryz.WC.f 196) #[.string s] w fun e w' => e = .returned (.bool (Lib.validD s.data.toList)) /\ Below w.heap.size w w' := Any.utf8_ValidString Tryz.acL s w hs hT
end Go.Proofs
namespace Go.Proofs.YtakpnepblgfknaaGreatDoor.X6
open Go YY Go.RowKit
section
variable {g:Zz} {w:World} {l:List As}
def NR (g:Zz):Prop:=∀(w:World) (l:List As),Sat g w l->Lib.Utf8Tabs (Tryz.WC.g 3) (Tryz.WC.g 4) w
theorem agJ (s:xN):(bs s).data.toList=s:=by grind [bs]
theorem aal (H:Sat g w l) (hT:NR g) (s:xN) (hs:s.length<=9223372036854775807):xP 233 #[.string (bs s)] w (fun v w'=>∃b,v=.bool b/\b=Lib.validD s/\Sat g w' l):=by
 refine Fc.KL Tryz.func233 rfl k_d<|(Tryz.utf8_ValidString (bs s) w (by grind [Tj]) (hT w l H)).mono ?_
 rintro e w' ⟨rfl,hb⟩
 exact ⟨_,rfl,_,rfl,by rw [agJ],H.below hb⟩
def Pn (s:xN):Int:=if 16<s.length then 2 else if Lib.validD s=true then 0 else 4
theorem name (H:Sat g w l) (hT:NR g) (s:xN) (hs:s.length<=9223372036854775807):xP 207 #[.string (bs s)] w (fun v w'=>∃t e,v=.tuple #[.string (bs t),yh e]/\e=Pn s/\t=(if Pn s=0 then WT s.length++s else [])/\t.length<=30/\Sat g w' l):=by
 refine Fc.of Tryz.func207 rfl k_d ?_
 by_cases Cd:16<s.length
 .have hE:Pn s=2:=if_pos Cd
  rw [hE,if_neg (by decide)]
  refine bk<|Xv rfl<|cT (Y9 yp)<|Z6.mk ?_
  refine ⟨[],2,?_⟩
  refine ⟨rfl,?_⟩
  refine ⟨yp,?_⟩
  refine ⟨rfl,?_⟩
  constructor
  .grind
  exact H
 .cases hv:Lib.validD s
  .have hE:Pn s=4:=by grind [Pn]
   rw [hE,if_neg (by decide)]
   refine bk<|Xv rfl<|cF (Zs yp) ?_
   refine Z7.mk (Fc.imp (X6.aal H yp _ yp) ?_)
   rintro _ w1 ⟨b1,⟨rfl,⟨h1,H⟩⟩⟩
   rw [hv] at h1
   subst h1
   refine cT rfl<|Z6.mk ?_
   refine ⟨[],4,?_⟩
   refine ⟨rfl,?_⟩
   refine ⟨yp,?_⟩
   refine ⟨rfl,?_⟩
   constructor
   .grind
   exact H
  .have hE:Pn s=0:=by grind [Pn]
   rw [hE,if_pos rfl]
   refine bk<|Xv rfl<|cF (Zs yp) ?_
   refine Z7.mk (Fc.imp (X6.aal H yp _ yp) ?_)
   rintro _ w1 ⟨b1,⟨rfl,⟨h1,H⟩⟩⟩
   rw [hv] at h1
   subst h1
   refine cF rfl<|Xv rfl<|Px yp rfl rfl ?_
   refine Z7.mk (Fc.imp (X6.U _ (s.length) yp yp _) ?_)
   rintro _ w2 ⟨l1,⟨rfl,⟨h1,⟨h2,H'⟩⟩⟩⟩
   refine H.XW H' ?_
   clear H H'
   intro H
   refine anh yp<|Z6.mk ?_
   refine ⟨l1++s,0,?_⟩
   refine ⟨rfl,?_⟩
   refine ⟨yp,?_⟩
   constructor
   .grind
   constructor
   .grind
   exact H
end
end Go.Proofs.YtakpnepblgfknaaGreatDoor.X6
namespace Go.Proofs.YtakpnepblgfknaaGreatDoor.YP
open Go YY Go.RowKit
open YT Zl X6
def fst (a b:Int):Int:=if a=0 then b else a
theorem Wo (b:Int):fst 0 b=b:=if_pos rfl
theorem SS {a:Int} (b:Int) (h:a≠0):fst a b=a:=if_neg h
theorem akT (a:Int):fst a 0=a:=by grind [fst]
theorem U7 (a b c:Int):fst (fst a b) c=fst a (fst b c):=by grind [fst]
theorem Zi {a b:Int}:fst a b=0↔a=0/\b=0:=by grind [fst]
def FE (b e c:Int):Prop:=c=fst b e
theorem FE.eq {b e c:Int} (h:FE b e c):c=fst b e:=h
theorem FE.two {b c d e f:Int} (h:FE b e c) (h':FE c f d):FE b (fst e f) d:=by grind [FE,U7]
def Te (k:Int):Int:=if k=127\/k=126 then 0 else 1
def Uy (n:Int):Int:=if 0<=n/\n<=4294967295 then 0 else 1
def Ok (n:Int):Int:=if -2147483648<=n/\n<=2147483647 then 0 else 1
def Yh {α:Type} (f:α->Int):List α->Int
 | []=>0
 | x::r=>fst (f x) (Yh f r)
def Lw (n:Nat) (m:Int):Int:=if (n:Int)<=m then 0 else 2
def Yi {α:Type} (m:Int) (f:α->Int) (l:List α):Int:=fst (Lw l.length m) (Yh f l)
theorem Pm {α β:Type} (f:β->Int) (d:α->β) (l:List α):Yh f (l.map d)=Yh (fun x=>f (d x)) l:=by
 induction l with
 | nil=>rfl
 | cons x r ih=>rw [ljb,Yh,Yh,ih]
theorem aaE {α β:Type} (m:Int) (f:β->Int) (d:α->β) (l:List α):Yi m f (l.map d)=Yi m (fun x=>f (d x)) l:=by grind [Yi,Pm,List.length_map]
theorem Ua {α:Type} {f:α->Int} {l:List α}:Yh f l=0↔∀x∈l,f x=0:=by
 induction l with
 | nil=>simp [Yh]
 | cons x r ih=>rw [Yh,Zi,ih];simp
theorem VC {α:Type} {m:Int} {f:α->Int} {l:List α}:Yi m f l=0↔(l.length:Int)<=m/\∀x∈l,f x=0:=by
 unfold Yi Lw
 rw [Zi,Ua]
 by_cases h:(l.length:Int)<=m
 .simp
 .omega
structure Xl where
 Zh:xO
 out:xO
structure Pk where
 ty:Int
 loc:xO
 body:List ZU
structure Y3 where
 types:List Xl
 ZA:List (xN × Int)
 funcs:List Pk
 table:Int
 pages:Int
 most:Int
 globals:List (Int × Bool × Int)
 VR:List (xN × Int)
 start:Int
 elems:List (Int × xO)
 data:List (Int × xN)
def Ip (s:Xl):Int:=fst (Yi 4 Te s.Zh) (Yi 1 Te s.out)
def Pj (x:xN × Int):Int:=fst (Pn x.1) (Uy x.2)
def Ku (f:Pk):Int:=fst (Uy f.ty) (fst (Yi 16 Te f.loc) (Yn f.body))
def Oj (k n:Int):Int:=if k≠127\/(-2147483648<=n/\n<=2147483647) then 0 else 1
def LP (x:Int × Bool × Int):Int:=fst (Te x.1) (Oj x.1 x.2.2)
def EK (x:Int × xO):Int:=fst (Ok x.1) (Yi 16 Uy x.2)
def LN (x:Int × xN):Int:=fst (Ok x.1) (Lw x.2.length 64)
def Cc (a b:Int):Int:=if a<=b then 0 else 1
def Jk (p m:Int):Int:=if 0<=p/\p<=m then 0 else 1
def Cb (a b:Int):Int:=if a<=b then 0 else 2
def Oi (m:Y3):Int :=
 fst (Yi 16 Ip m.types) (fst (Yi 16 Pj m.ZA) (fst (Yi 16 Ku m.funcs) (fst (Cc 0 m.table) (fst (Cb m.table 16) (fst (Jk m.pages m.most) (fst (Cb m.most 8)
  (fst (Yi 8 LP m.globals) (fst (Yi 8 Pj m.VR) (fst (Uy m.start) (fst (Yi 4 EK m.elems) (Yi 4 LN m.data)))))))))))
structure Xx where
 vi:Value
 Zh:xO
 vo:Value
 out:xO
structure Yr where
 ty:Int
 vl:Value
 loc:xO
 vb:Value
 body:List Y6
structure RW where
 pl:Int
 vf:Value
 fs:xO
structure Zj where
 vt:Value
 types:List Xx
 vm:Value
 ZA:List (xN × Int)
 vf:Value
 funcs:List Yr
 table:Int
 pages:Int
 most:Int
 vg:Value
 globals:List (Int × Bool × Int)
 vx:Value
 VR:List (xN × Int)
 start:Int
 ve:Value
 elems:List RW
 vd:Value
 data:List (Int × xN)
abbrev yl (m:Zj) (r:List Go.Value):List Go.Value:=m.vt::m.vm::m.vf::.int .i64 m.table::.int .i64 m.pages::.int .i64 m.most::m.vg::m.vx::.int .i64 m.start::m.ve::m.vd::r
def Xx.d (x:Xx):Xl:=⟨x.Zh,x.out⟩
def Yr.d (x:Yr):Pk:=⟨x.ty,x.loc,x.body.map Y6.d⟩
def RW.d (x:RW):Int × xO:=(x.pl,x.fs)
def Zj.d (m:Zj):Y3:=⟨m.types.map Xx.d,m.ZA,m.funcs.map Yr.d,m.table,m.pages,m.most,m.globals,m.VR,m.start,m.elems.map RW.d,m.data⟩
def Oh (x:Xx):xM:=[x.vi,x.vo]
def TH (x:xN × Int):xM:=[.string (bs x.1),.int .i64 x.2]
def Og (x:Yr):xM:=[.int .i64 x.ty,x.vl,x.vb]
def NQ (x:Int × Bool × Int):xM:=[.int .u8 x.1,.bool x.2.1,.int .i64 x.2.2]
def EJ (x:RW):xM:=[.int .i64 x.pl,x.vf]
def G9 (x:Int × xN):xM:=[.int .i64 x.1,.string (bs x.2)]
def anK (m:Zj):xM:=(yl m [])
structure WI (g:Zz) (x:Xx):Prop where
 Zh:Z0 g Yu U8 1 x.vi x.Zh
 out:Z0 g Yu U8 1 x.vo x.out
structure Rm (x:xN × Int):Prop where
 name:x.1.length<=9223372036854775807
 ty:XB x.2
structure Um (g:Zz) (x:Yr):Prop where
 ty:XB x.ty
 loc:Z0 g Yu U8 1 x.vl x.loc
 body:Z0 g Ot (okV g) 4 x.vb x.body
structure Kt (x:Int × Bool × Int):Prop where
 kind:U8 x.1
 start:XB x.2.2
structure LL (g:Zz) (x:RW):Prop where
 pl:XB x.pl
 fs:Z0 g ZJ WD 1 x.vf x.fs
structure Io (x:Int × xN):Prop where
 pl:XB x.1
 bytes:x.2.length<=9223372036854775807
structure XE (g:Zz) (m:Zj):Prop where
 types:Z0 g Oh (WI g) 2 m.vt m.types
 ZA:Z0 g TH Rm 2 m.vm m.ZA
 funcs:Z0 g Og (Um g) 3 m.vf m.funcs
 table:XB m.table
 pages:XB m.pages
 most:XB m.most
 globals:Z0 g NQ Kt 3 m.vg m.globals
 VR:Z0 g TH Rm 2 m.vx m.VR
 start:XB m.start
 elems:Z0 g EJ (LL g) 2 m.ve m.elems
 data:Z0 g G9 Io 2 m.vd m.data
end Go.Proofs.YtakpnepblgfknaaGreatDoor.YP
namespace Go.Proofs.YtakpnepblgfknaaGreatDoor.YP
open Go YY Go.RowKit
open YT Zl X6
section
variable {g:Zz} {w:World} {l:List As} {pc q:Nat} {b:Int}
theorem isKind (k:Int) (w:World):xP 211 #[.int .u8 k] w (fun v w'=>(∃r,v=.bool r/\(r=true↔k=127\/k=126))/\Sat (Wy w) w' []):=by
 refine Fc.of Tryz.func211 rfl k_d ?_
 have H:=Sat.start w
 refine br (fun c1=>?_) (fun c1=>?_)
 .replace c1:=ZR (c1)
  refine Z6.mk ?_
  constructor
  .grind
  exact H
 replace c1:=ZQ (c1)
 refine Z6.mk ?_
 constructor
 .grind [YU]
 exact H
theorem Tg (n:Int) (w:World):xP 209 #[yh n] w (fun v w'=>(∃r,v=.bool r/\(r=true↔0<=n/\n<=4294967295))/\Sat (Wy w) w' []):=by
 refine Fc.of Tryz.func209 rfl k_d ?_
 have H:=Sat.start w
 refine br (fun c1=>?_) (fun c1=>?_)
 .replace c1:=Xq (c1)
  refine Z6.mk ?_
  constructor
  .grind [YM]
  exact H
 replace c1:=Xp (c1)
 refine Z6.mk ?_
 constructor
 .grind
 exact H
theorem agK (n:Int) (hn:XB n) (w:World):xP 213 #[yh n] w (fun v w'=>(∃r,v=.bool r/\(r=true↔-2147483648<=n/\n<=2147483647))/\Sat (Wy w) w' []):=by
 refine Fc.of Tryz.func213 rfl k_d ?_
 have H:=Sat.start w
 refine Zo rfl rfl<|Zo rfl rfl<|Z6.mk ?_
 constructor
 .refine ⟨K6 n (ZM IntKind.i64 (ZM IntKind.i32 n)),?_⟩
  refine ⟨rfl,?_⟩
  exact KG hn
 exact H
def L4 (r:Bool) (e:Int):Int:=if r=true then 0 else e
theorem nd1 {r:Bool} {e:Int} (h:b≠0):FE b (L4 r e) b:=(SS _ h).symm
theorem nd2 {r:Bool} {e:Int} (h:b=0) (hr:r=true):FE b (L4 r e) b:=by subst h;subst hr;rfl
theorem nd3 {r:Bool} {e:Int} (h:b=0) (hr:r=false):FE b (L4 r e) e:=by subst h;subst hr;rfl
theorem need (H:Sat g w (Pt pc [yh b] 269::l)) (r:Bool) (e:Int):xP 179 #[yg pc,.bool r,yh e] w (fun _ w'=>∃c,FE b (L4 r e) c/\Sat g w' (Pt pc [yh c] 269::l)):=by
 refine Fc.of Tryz.func179 rfl k_d<|Z9 rfl<|ye H 0 0 x9 ?_
 refine br (fun c1=>?_) (fun c1=>?_)
 .replace c1:=ZR (c1)
  refine cI (fun c2=>?_) (fun c2=>?_)
  .replace c2:=Sw (c2)
   refine Z9 rfl<|Yo H 0 rfl rfl rfl rfl<|fun w1 H=>Z6.mk ?_
   refine ⟨e,?_⟩
   constructor
   .exact nd3 yp yo
   exact H
  replace c2:=Sv (c2)
  refine Z6.mk ?_
  refine ⟨b,?_⟩
  constructor
  .exact nd2 yp yo
  exact H
 replace c1:=ZQ (c1)
 refine cF rfl<|Z6.mk ?_
 refine ⟨b,?_⟩
 constructor
 .exact nd1 yp
 exact H
theorem fe0 {e:Int} (h:b=0):FE b e e:=by subst h;exact (Wo _).symm
theorem anL (H:Sat g w (Pt pc [yh b] 269::l)) (e:Int):xP 208 #[yg pc,yh e] w (fun _ w'=>∃c,FE b e c/\Sat g w' (Pt pc [yh c] 269::l)):=by
 refine Fc.of Tryz.func208 rfl k_d<|Z9 rfl<|ye H 0 0 x9 ?_
 refine xR (fun c1=>?_) (fun c1=>?_)
 .refine Z9 rfl<|Yo H 0 rfl rfl rfl rfl<|fun w1 H=>Z6.mk ?_
  refine ⟨e,?_⟩
  constructor
  .exact fe0 yo
  exact H
 refine Z6.mk ?_
 refine ⟨b,?_⟩
 constructor
 .exact (SS _ yp).symm
 exact H
theorem Gx {r:Bool} {p:Prop} [Decidable p] {e c:Int} (hr:r=true↔p) (h:FE b (L4 r e) c):FE b (if p then 0 else e) c:=by grind [FE,L4]
theorem kind (H:Sat g w (Pt pc [yh b] 269::l)) (k:Int):xP 182 #[yg pc,.int .u8 k] w (fun _ w'=>∃c,FE b (Te k) c/\Sat g w' (Pt pc [yh c] 269::l)):=by
 refine Fc.of Tryz.func182 rfl k_d ?_
 refine Z7.mk (Fc.imp (YP.isKind _ _) ?_)
 rintro _ w1 ⟨⟨r1,⟨rfl,h1⟩⟩,H'⟩
 refine H.XW H' ?_
 clear H H'
 intro H
 refine Z7.mk (Fc.imp (YP.need H _ _) ?_)
 clear H
 rintro v' w2 ⟨c1,⟨h2,H⟩⟩
 refine Z6.mk ?_
 refine ⟨c1,?_⟩
 constructor
 .exact Gx yo yo
 exact H
theorem index (H:Sat g w (Pt pc [yh b] 269::l)) (n:Int):xP 176 #[yg pc,yh n] w (fun _ w'=>∃c,FE b (Uy n) c/\Sat g w' (Pt pc [yh c] 269::l)):=by
 refine Fc.of Tryz.func176 rfl k_d ?_
 refine Z7.mk (Fc.imp (YP.Tg _ _) ?_)
 rintro _ w1 ⟨⟨r1,⟨rfl,h1⟩⟩,H'⟩
 refine H.XW H' ?_
 clear H H'
 intro H
 refine Z7.mk (Fc.imp (YP.need H _ _) ?_)
 clear H
 rintro v' w2 ⟨c1,⟨h2,H⟩⟩
 refine Z6.mk ?_
 refine ⟨c1,?_⟩
 constructor
 .exact Gx yo yo
 exact H
theorem place (H:Sat g w (Pt pc [yh b] 269::l)) (n:Int) (hn:XB n):xP 189 #[yg pc,yh n] w (fun _ w'=>∃c,FE b (Ok n) c/\Sat g w' (Pt pc [yh c] 269::l)):=by
 refine Fc.of Tryz.func189 rfl k_d ?_
 refine Z7.mk (Fc.imp (YP.agK _ yo _) ?_)
 rintro _ w1 ⟨⟨r1,⟨rfl,h1⟩⟩,H'⟩
 refine H.XW H' ?_
 clear H H'
 intro H
 refine Z7.mk (Fc.imp (YP.need H _ _) ?_)
 clear H
 rintro v' w2 ⟨c1,⟨h2,H⟩⟩
 refine Z6.mk ?_
 refine ⟨c1,?_⟩
 constructor
 .exact Gx yo yo
 exact H
theorem named (H:Sat g w (Pt pc [yh b] 269::l)) (hT:NR g) (s:xN) (hs:s.length<=9223372036854775807):xP 175 #[yg pc,.string (bs s)] w (fun _ w'=>∃c,FE b (Pn s) c/\Sat g w' (Pt pc [yh c] 269::l)):=by
 refine Fc.of Tryz.func175 rfl k_d ?_
 refine Z7.mk (Fc.imp (X6.name H yp _ yp) ?_)
 clear H
 rintro _ w1 ⟨t1,⟨e1,⟨rfl,⟨h1,⟨h2,⟨h3,H⟩⟩⟩⟩⟩⟩
 refine Z7.mk (Fc.imp (YP.anL H _) ?_)
 clear H
 rintro v' w2 ⟨c1,⟨h4,H⟩⟩
 refine Z6.mk ?_
 refine ⟨c1,?_⟩
 constructor
 .grind
 exact H
theorem Jj {a m:Int}:L4 (IX a m) 2=(if a<=m then 0 else 2):=by
 unfold L4
 by_cases h:a<=m
 .rw [if_pos (by grind [YM]),if_pos h]
 .rw [if_neg (by grind [YM]),if_neg h]
theorem gl1 {x:Int × Bool × Int} {c d:Int} (h1:FE b (Te x.1) c) (h:x.1≠127) (h2:FE c (L4 true 1) d):FE b (LP x) d:=by
 refine FE.two h1 ?_
 have e:Oj x.1 x.2.2=0:=if_pos (.inl h)
 rw [e];exact h2
theorem gl2 {x:Int × Bool × Int} {c d:Int} (hx:XB x.2.2) (h1:FE b (Te x.1) c) (h:x.1=127) (h2:FE c (L4 (K6 x.2.2 (ZM .i64 (ZM .i32 x.2.2))) 1) d):FE b (LP x) d:=by
 refine FE.two h1 ?_
 have e:Oj x.1 x.2.2=L4 (K6 x.2.2 (ZM .i64 (ZM .i32 x.2.2))) 1:=by
  unfold Oj L4
  by_cases hh:-2147483648<=x.2.2/\x.2.2<=2147483647
  .rw [if_pos (.inr hh),if_pos ((KG hx).2 hh)]
  .rw [if_neg (fun k=>k.elim (fun k=>k h) hh),if_neg (fun k=>hh ((KG hx).1 k))]
 rw [e];exact h2
theorem dt1 {x:Int × xN} {c d:Int} (h1:FE b (Ok x.1) c) (h2:FE c (L4 (IX x.2.length 64) 2) d):FE b (LN x) d:=by
 refine FE.two h1 ?_
 rw [Jj] at h2;exact h2
theorem EI {α:Type} {f:α->Int} {m:Int} {xs:List α} {c:Int} (h:FE b (L4 (IX xs.length m) 2) c):fst c (Yh f (xs.drop 0))=fst b (Yi m f xs):=by
 unfold FE at h;subst h
 have:L4 (IX xs.length m) 2=Lw xs.length m:=by
  unfold L4 Lw
  by_cases h:(xs.length:Int)<=m
  .rw [if_pos (by grind [YM]),if_pos h]
  .rw [if_neg (by grind [YM]),if_neg h]
 rw [this,U7,lgb];rfl
theorem EH {α:Type} {f:α->Int} {m:Int} {xs:List α} {c:Int} {i:Nat} (hi:xs.length<=i) (h:fst c (Yh f (xs.drop i))=fst b (Yi m f xs)):FE b (Yi m f xs) c:=by
 rw [lxa hi] at h
 exact (akT c).symm.trans h
theorem EF {α:Type} {f:α->Int} {m:Int} {xs:List α} {c:Int} {i:Nat} (hc:c≠0) (h:fst c (Yh f (xs.drop i))=fst b (Yi m f xs)):FE b (Yi m f xs) c:=by
 rw [SS _ hc] at h;exact h
theorem ED {α:Type} {f:α->Int} {m:Int} {xs:List α} {c d:Int} {i:Nat} {a:α} (hx:xs[i]?=some a) (hd:FE c (f a) d) (h:fst c (Yh f (xs.drop i))=fst b (Yi m f xs)):fst d (Yh f (xs.drop (i+1)))=fst b (Yi m f xs):=by grind [FE,List.drop_eq_getElem_cons,Yh,U7]
theorem Gw (H:Sat g w (Pt pc [yh b] 269::l)) (m:Int) (v:Value) (xs:xO) (hx:Z0 g Yu U8 1 v xs):xP 206 #[yg pc,v,yh m,.func (.func 182) #[yg pc] #[]] w (fun _ w'=>∃c,FE b (Yi m Te xs) c/\Sat g w' (Pt pc [yh c] 269::l)):=by
 refine Fc.of Tryz.func206 rfl k_d ?_
 have hbd:=VF.len hx
 refine ZF hx rfl ?_
 refine Z7.mk (Fc.imp (YP.need H _ _) ?_)
 rintro v' w1 ⟨c1,⟨h1,H⟩⟩
 refine ZF hx rfl ?_
 refine YV.rule (α:=Nat × Int) (0,c1) (fun x_=>[(18,yh x_.1)]) (fun x_ w_=>(x_.1<=xs.length)/\(fst x_.2 (Yh Te (xs.drop x_.1))=fst b (Yi m Te xs))/\Sat g w_ ((Pt pc [yh x_.2] 269::l))) (fun x_=>xs.length-x_.1) ?_ ?_ ?_
 .exact k_a
 .try simp only
  refine ⟨yp,?_⟩
  constructor
  .exact EI yo
  exact H
 rintro ⟨i,d⟩ f_ w_ ⟨hi,hb,H⟩
 try simp only at hi hb H ⊢
 refine xT (fun c2=>?_) (fun c2=>?_)
 .refine bk ?_
  obtain ⟨x1,hx1⟩:∃x,(xs)[(i)]?=some x:=⟨_,laa yp⟩
  obtain ⟨b1,o1,E1,F1,ZH⟩:=Z0.Y5 hx hx1
  refine ZI E1 rfl rfl rfl<|xW (H.Yt F1) 0 xV<|Z9 rfl<|ye H 0 0 x9 ?_
  refine xQ (fun c3=>?_) (fun c3=>?_)
  .refine Z6.mk ?_
   refine ⟨d,?_⟩
   constructor
   .exact EF yp hb
   exact H
  refine Z7.mk (Fc.imp (YP.kind H _) ?_)
  rintro Wu w2 ⟨c4,⟨h2,H⟩⟩
  refine ZX yp ?_
  refine W0.mk ((i+1,c4)) (Zr rfl yp (ZW)) ?_ ?_
  .refine ⟨yp,?_⟩
   constructor
   .exact ED hx1 yo hb
   exact H
  omega
 refine Z6.mk ?_
 refine ⟨d,?_⟩
 constructor
 .exact EH yp hb
 exact H
theorem akU (H:Sat g w (Pt pc [yh b] 269::l)) (m:Int) (v:Value) (xs:xO) (hx:Z0 g ZJ WD 1 v xs):xP 212 #[yg pc,v,yh m,.func (.func 176) #[yg pc] #[]] w (fun _ w'=>∃c,FE b (Yi m Uy xs) c/\Sat g w' (Pt pc [yh c] 269::l)):=by
 refine Fc.of Tryz.func212 rfl k_d ?_
 have hbd:=VF.len hx
 refine ZF hx rfl ?_
 refine Z7.mk (Fc.imp (YP.need H _ _) ?_)
 rintro v' w1 ⟨c1,⟨h1,H⟩⟩
 refine ZF hx rfl ?_
 refine YV.rule (α:=Nat × Int) (0,c1) (fun x_=>[(18,yh x_.1)]) (fun x_ w_=>(x_.1<=xs.length)/\(fst x_.2 (Yh Uy (xs.drop x_.1))=fst b (Yi m Uy xs))/\Sat g w_ ((Pt pc [yh x_.2] 269::l))) (fun x_=>xs.length-x_.1) ?_ ?_ ?_
 .exact k_a
 .try simp only
  refine ⟨yp,?_⟩
  constructor
  .exact EI yo
  exact H
 rintro ⟨i,d⟩ f_ w_ ⟨hi,hb,H⟩
 try simp only at hi hb H ⊢
 refine xT (fun c2=>?_) (fun c2=>?_)
 .refine bk ?_
  obtain ⟨x1,hx1⟩:∃x,(xs)[(i)]?=some x:=⟨_,laa yp⟩
  obtain ⟨b1,o1,E1,F1,ZH⟩:=Z0.Y5 hx hx1
  refine ZI E1 rfl rfl rfl<|xW (H.Yt F1) 0 xV<|Z9 rfl<|ye H 0 0 x9 ?_
  refine xQ (fun c3=>?_) (fun c3=>?_)
  .refine Z6.mk ?_
   refine ⟨d,?_⟩
   constructor
   .exact EF yp hb
   exact H
  refine Z7.mk (Fc.imp (YP.index H _) ?_)
  rintro Wu w2 ⟨c4,⟨h2,H⟩⟩
  refine ZX yp ?_
  refine W0.mk ((i+1,c4)) (Zr rfl yp (ZW)) ?_ ?_
  .refine ⟨yp,?_⟩
   constructor
   .exact ED hx1 yo hb
   exact H
  omega
 refine Z6.mk ?_
 refine ⟨d,?_⟩
 constructor
 .exact EH yp hb
 exact H
theorem sig (H:Sat g w (Pt pc [yh b] 269::l)) (x:Xx) (hx:WI g x):xP 172 #[yg pc,.agg #[x.vi,x.vo]] w (fun _ w'=>∃c,FE b (Ip x.d) c/\Sat g w' (Pt pc [yh c] 269::l)):=by
 refine Fc.of Tryz.func172 rfl k_d ?_
 have aiJ:=hx.Zh
 have aiK:=hx.out
 refine ZL H<|fun p1 w1 H=>Z9 rfl<|ye H 0 0 x9<|H.Z8 [1]<|fun H=>?_
 refine Z7.mk (Fc.imp (YP.Gw H _ _ _ aiJ) ?_)
 rintro v' w2 ⟨c1,⟨h1,H⟩⟩
 refine Z9 rfl<|ye H 1 1 x9 ?_
 refine Z7.mk (Fc.imp (YP.Gw H _ _ _ aiK) ?_)
 rintro Wu w3 ⟨c2,⟨h2,H⟩⟩
 refine Z6.mk ?_
 refine ⟨c2,?_⟩
 constructor
 .exact FE.two yo yo
 exact H.drop 1<|fun H=>H
theorem aiL (H:Sat g w (Pt pc [yh b] 269::l)) (m:Int) (v:Value) (xs:List Xx) (hx:Z0 g Oh (WI g) 2 v xs):xP 171 #[yg pc,v,yh m,.func (.func 172) #[yg pc] #[]] w (fun _ w'=>∃c,FE b (Yi m (fun x:Xx=>Ip x.d) xs) c/\Sat g w' (Pt pc [yh c] 269::l)):=by
 refine Fc.of Tryz.func171 rfl k_d ?_
 have hbd:=VF.len hx
 refine ZF hx rfl ?_
 refine Z7.mk (Fc.imp (YP.need H _ _) ?_)
 rintro v' w1 ⟨c1,⟨h1,H⟩⟩
 refine ZF hx rfl ?_
 refine YV.rule (α:=Nat × Int) (0,c1) (fun x_=>[(18,yh x_.1)]) (fun x_ w_=>(x_.1<=xs.length)/\(fst x_.2 (Yh (fun x:Xx=>Ip x.d) (xs.drop x_.1))=fst b (Yi m (fun x:Xx=>Ip x.d) xs))/\Sat g w_ ((Pt pc [yh x_.2] 269::l))) (fun x_=>xs.length-x_.1) ?_ ?_ ?_
 .exact k_a
 .try simp only
  refine ⟨yp,?_⟩
  constructor
  .exact EI yo
  exact H
 rintro ⟨i,d⟩ f_ w_ ⟨hi,hb,H⟩
 try simp only at hi hb H ⊢
 refine xT (fun c2=>?_) (fun c2=>?_)
 .refine bk ?_
  obtain ⟨x1,hx1⟩:∃x,(xs)[(i)]?=some x:=⟨_,laa yp⟩
  obtain ⟨b1,o1,E1,F1,ZH⟩:=Z0.Y5 hx hx1
  have Ph:=ZH.Zh
  have Pg:=ZH.out
  refine ZI E1 rfl rfl rfl<|ZC (H.Yt F1) 0 rfl rfl rfl<|ZV H rfl<|fun p1 w2 H=>ZG H 0 rfl rfl rfl (by grind [Z0.one])<|fun w3 H=>Z9 rfl<|ye H 1 0 x9 ?_
  refine xQ (fun c3=>?_) (fun c3=>?_)
  .refine Z6.mk ?_
   refine ⟨d,?_⟩
   constructor
   .exact EF yp hb
   exact H.Z8 [1]<|fun H=>H.drop 1<|fun H=>H
  refine ZC (H.at 0 rfl) 0 rfl rfl rfl<|H.Z8 [1]<|fun H=>?_
  refine Z7.mk (Fc.imp (YP.sig H _ yp) ?_)
  rintro Wu w2 ⟨c4,⟨h2,H⟩⟩
  refine ZX yp ?_
  refine W0.mk ((i+1,c4)) (Zr rfl yp (ZW)) ?_ ?_
  .refine ⟨yp,?_⟩
   constructor
   .exact ED hx1 yo hb
   exact H.drop 1<|fun H=>H
  omega
 refine Z6.mk ?_
 refine ⟨d,?_⟩
 constructor
 .exact EH yp hb
 exact H
theorem anM (H:Sat g w (Pt pc [yh b] 269::Pt q [yg pc] 267::l)) (hT:NR g) (x:xN × Int) (hx:Rm x):xP 174 #[.agg #[.string (bs x.1),yh x.2],yg q] w (fun _ w'=>∃c,FE b (Pj x) c/\Sat g w' (Pt pc [yh c] 269::Pt q [yg pc] 267::l)):=by
 refine Fc.of Tryz.func174 rfl k_d ?_
 have agL:=hx.name
 have ahU:=hx.ty
 refine ZL H<|fun p1 w1 H=>ye H 2 0 x9<|Z9 rfl<|ye H 0 0 x9<|H.Z8 [1]<|fun H=>?_
 refine Z7.mk (Fc.imp (YP.named H yp _ yp) ?_)
 rintro v' w2 ⟨c1,⟨h1,H⟩⟩
 refine ye H 2 0 x9<|Z9 rfl<|ye H 1 1 x9 ?_
 refine Z7.mk (Fc.imp (YP.index H _) ?_)
 rintro Wu w3 ⟨c2,⟨h2,H⟩⟩
 refine Z6.mk ?_
 refine ⟨c2,?_⟩
 constructor
 .exact FE.two yo yo
 exact H.Z8 [2,1]<|fun H=>H.drop 2<|fun H=>H
theorem aiM (H:Sat g w (Pt pc [yh b] 269::Pt q [yg pc] 267::l)) (hT:NR g) (m:Int) (v:Value) (xs:List (xN × Int)) (hx:Z0 g TH Rm 2 v xs):xP 173 #[yg pc,v,yh m,.func (.func 174) #[] #[yg q]] w (fun _ w'=>∃c,FE b (Yi m Pj xs) c/\Sat g w' (Pt pc [yh c] 269::Pt q [yg pc] 267::l)):=by
 refine Fc.of Tryz.func173 rfl k_d ?_
 have hbd:=VF.len hx
 refine ZF hx rfl ?_
 refine Z7.mk (Fc.imp (YP.need H _ _) ?_)
 rintro v' w1 ⟨c1,⟨h1,H⟩⟩
 refine ZF hx rfl ?_
 refine YV.rule (α:=Nat × Int) (0,c1) (fun x_=>[(18,yh x_.1)]) (fun x_ w_=>(x_.1<=xs.length)/\(fst x_.2 (Yh Pj (xs.drop x_.1))=fst b (Yi m Pj xs))/\Sat g w_ ((Pt pc [yh x_.2] 269::Pt q [yg pc] 267::l))) (fun x_=>xs.length-x_.1) ?_ ?_ ?_
 .exact k_a
 .try simp only
  refine ⟨yp,?_⟩
  constructor
  .exact EI yo
  exact H
 rintro ⟨i,d⟩ f_ w_ ⟨hi,hb,H⟩
 try simp only at hi hb H ⊢
 refine xT (fun c2=>?_) (fun c2=>?_)
 .refine bk ?_
  obtain ⟨x1,hx1⟩:∃x,(xs)[(i)]?=some x:=⟨_,laa yp⟩
  obtain ⟨b1,o1,E1,F1,ZH⟩:=Z0.Y5 hx hx1
  have Ux:=ZH.name
  have XS:=ZH.ty
  refine ZI E1 rfl rfl rfl<|ZC (H.Yt F1) 0 rfl rfl rfl<|ZV H rfl<|fun p1 w2 H=>ZG H 0 rfl rfl rfl rfl<|fun w3 H=>Z9 rfl<|ye H 1 0 x9 ?_
  refine xQ (fun c3=>?_) (fun c3=>?_)
  .refine Z6.mk ?_
   refine ⟨d,?_⟩
   constructor
   .exact EF yp hb
   exact H.Z8 [2,2]<|fun H=>H.drop 2<|fun H=>H
  refine ZC (H.at 0 rfl) 0 rfl rfl rfl<|H.Z8 [2,2]<|fun H=>?_
  refine Z7.mk (Fc.imp (YP.anM H yp _ yp) ?_)
  rintro Wu w2 ⟨c4,⟨h2,H⟩⟩
  refine ZX yp ?_
  refine W0.mk ((i+1,c4)) (Zr rfl yp (ZW)) ?_ ?_
  .refine ⟨yp,?_⟩
   constructor
   .exact ED hx1 yo hb
   exact H.drop 2<|fun H=>H
  omega
 refine Z6.mk ?_
 refine ⟨d,?_⟩
 constructor
 .exact EH yp hb
 exact H
theorem anN {b c d:Int} {x:Yr} (h1:FE b (Uy x.ty) c) (h2:FE c (Yi 16 Te x.loc) d) (h:d≠0):FE b (Ku x.d) d:=by
 unfold FE at *
 have:fst d (Yn x.d.body)=d:=SS _ h
 rw [<-this,h2,h1,U7,U7];rfl
theorem anO {b c d e:Int} {x:Yr} (h1:FE b (Uy x.ty) c) (h2:FE c (Yi 16 Te x.loc) d) (h:d=0) (he:e=Yn (x.body.map Y6.d)):FE b (Ku x.d) e:=by
 unfold FE at *
 have:fst d (Yn x.d.body)=e:=by rw [h,Wo];exact he.symm
 rw [<-this,h2,h1,U7,U7];rfl
theorem function (H:Sat g w (Pt pc [yh b] 269::l)) (x:Yr) (hx:Um g x):xP 178 #[yg pc,.agg #[yh x.ty,x.vl,x.vb]] w (fun _ w'=>∃c,FE b (Ku x.d) c/\Sat g w' (Pt pc [yh c] 269::l)):=by
 refine Fc.of Tryz.func178 rfl k_d ?_
 have ahU:=hx.ty
 have aiN:=hx.loc
 have agM:=hx.body
 refine ZL H<|fun p1 w1 H=>Z9 rfl<|ye H 0 0 x9<|H.Z8 [1]<|fun H=>?_
 refine Z7.mk (Fc.imp (YP.index H _) ?_)
 rintro v' w2 ⟨c1,⟨h1,H⟩⟩
 refine Z9 rfl<|ye H 1 1 x9 ?_
 refine Z7.mk (Fc.imp (YP.Gw H _ _ _ aiN) ?_)
 rintro Wu w3 ⟨c2,⟨h2,H⟩⟩
 refine Z9 rfl<|ye H 0 0 x9 ?_
 refine xR (fun c3=>?_) (fun c3=>?_)
 .refine Z9 rfl<|ye H 1 2 x9 ?_
  refine Z7.mk (Fc.imp (Zl.check H _ _ agM) ?_)
  rintro _ w4 ⟨⟨e1,⟨rfl,h3⟩⟩,H⟩
  refine Z9 rfl<|Yo H 0 rfl rfl rfl rfl<|fun w5 H=>Z6.mk ?_
  refine ⟨e1,?_⟩
  constructor
  .exact anO yo yo yp yo
  exact H.drop 1<|fun H=>H
 refine Z6.mk ?_
 refine ⟨c2,?_⟩
 constructor
 .exact anN yo yo yp
 exact H.drop 1<|fun H=>H
theorem aiO (H:Sat g w (Pt pc [yh b] 269::l)) (m:Int) (v:Value) (xs:List Yr) (hx:Z0 g Og (Um g) 3 v xs):xP 177 #[yg pc,v,yh m,.func (.func 178) #[yg pc] #[]] w (fun _ w'=>∃c,FE b (Yi m (fun x:Yr=>Ku x.d) xs) c/\Sat g w' (Pt pc [yh c] 269::l)):=by
 refine Fc.of Tryz.func177 rfl k_d ?_
 have hbd:=VF.len hx
 refine ZF hx rfl ?_
 refine Z7.mk (Fc.imp (YP.need H _ _) ?_)
 rintro v' w1 ⟨c1,⟨h1,H⟩⟩
 refine ZF hx rfl ?_
 refine YV.rule (α:=Nat × Int) (0,c1) (fun x_=>[(18,yh x_.1)]) (fun x_ w_=>(x_.1<=xs.length)/\(fst x_.2 (Yh (fun x:Yr=>Ku x.d) (xs.drop x_.1))=fst b (Yi m (fun x:Yr=>Ku x.d) xs))/\Sat g w_ ((Pt pc [yh x_.2] 269::l))) (fun x_=>xs.length-x_.1) ?_ ?_ ?_
 .exact k_a
 .try simp only
  refine ⟨yp,?_⟩
  constructor
  .exact EI yo
  exact H
 rintro ⟨i,d⟩ f_ w_ ⟨hi,hb,H⟩
 try simp only at hi hb H ⊢
 refine xT (fun c2=>?_) (fun c2=>?_)
 .refine bk ?_
  obtain ⟨x1,hx1⟩:∃x,(xs)[(i)]?=some x:=⟨_,laa yp⟩
  obtain ⟨b1,o1,E1,F1,ZH⟩:=Z0.Y5 hx hx1
  have XS:=ZH.ty
  have Zv:=ZH.loc
  have ZE:=ZH.body
  refine ZI E1 rfl rfl rfl<|ZC (H.Yt F1) 0 rfl rfl rfl<|ZV H rfl<|fun p1 w2 H=>ZG H 0 rfl rfl rfl (by simp only [List.all_cons,List.all_nil,Z0.one ZE,Z0.one Zv,Z0.one hx];rfl)<|fun w3 H=>Z9 rfl<|ye H 1 0 x9 ?_
  refine xQ (fun c3=>?_) (fun c3=>?_)
  .refine Z6.mk ?_
   refine ⟨d,?_⟩
   constructor
   .exact EF yp hb
   exact H.Z8 [1]<|fun H=>H.drop 1<|fun H=>H
  refine ZC (H.at 0 rfl) 0 rfl rfl rfl<|H.Z8 [1]<|fun H=>?_
  refine Z7.mk (Fc.imp (YP.function H _ yp) ?_)
  rintro Wu w2 ⟨c4,⟨h2,H⟩⟩
  refine ZX yp ?_
  refine W0.mk ((i+1,c4)) (Zr rfl yp (ZW)) ?_ ?_
  .refine ⟨yp,?_⟩
   constructor
   .exact ED hx1 yo hb
   exact H.drop 1<|fun H=>H
  omega
 refine Z6.mk ?_
 refine ⟨d,?_⟩
 constructor
 .exact EH yp hb
 exact H
theorem akV (H:Sat g w (Pt pc [yh b] 269::Pt q [yg pc] 267::l)) (x:Int × Bool × Int) (hx:Kt x):xP 181 #[.agg #[.int .u8 x.1,.bool x.2.1,yh x.2.2],yg q] w (fun _ w'=>∃c,FE b (LP x) c/\Sat g w' (Pt pc [yh c] 269::Pt q [yg pc] 267::l)):=by
 refine Fc.of Tryz.func181 rfl k_d ?_
 have am4:=hx.kind
 have aeK:=hx.start
 refine ZL H<|fun p1 w1 H=>ye H 2 0 x9<|Z9 rfl<|ye H 0 0 x9<|H.Z8 [1]<|fun H=>?_
 refine Z7.mk (Fc.imp (YP.kind H _) ?_)
 rintro v' w2 ⟨c1,⟨h1,H⟩⟩
 refine ye H 2 0 x9<|Z9 rfl<|ye H 1 0 x9 ?_
 refine br (fun c2=>?_) (fun c2=>?_)
 .replace c2:=YG (c2)
  refine Z7.mk (Fc.imp (YP.need H _ _) ?_)
  rintro Wu w3 ⟨c3,⟨h2,H⟩⟩
  refine Z6.mk ?_
  refine ⟨c3,?_⟩
  constructor
  .exact gl1 h1 yo yo
  exact H.Z8 [2,1]<|fun H=>H.drop 2<|fun H=>H
 replace c2:=YF (c2)
 refine Z9 rfl<|ye H 1 2 x9<|Z9 rfl<|ye H 1 2 x9<|Zo rfl rfl<|Zo rfl rfl ?_
 refine Z7.mk (Fc.imp (YP.need H _ _) ?_)
 rintro Wu w3 ⟨c3,⟨h2,H⟩⟩
 refine Z6.mk ?_
 refine ⟨c3,?_⟩
 constructor
 .exact gl2 aeK h1 yp yo
 exact H.Z8 [2,1]<|fun H=>H.drop 2<|fun H=>H
theorem aeL (H:Sat g w (Pt pc [yh b] 269::Pt q [yg pc] 267::l)) (m:Int) (v:Value) (xs:List (Int × Bool × Int)) (hx:Z0 g NQ Kt 3 v xs):xP 180 #[yg pc,v,yh m,.func (.func 181) #[] #[yg q]] w (fun _ w'=>∃c,FE b (Yi m LP xs) c/\Sat g w' (Pt pc [yh c] 269::Pt q [yg pc] 267::l)):=by
 refine Fc.of Tryz.func180 rfl k_d ?_
 have hbd:=VF.len hx
 refine ZF hx rfl ?_
 refine Z7.mk (Fc.imp (YP.need H _ _) ?_)
 rintro v' w1 ⟨c1,⟨h1,H⟩⟩
 refine ZF hx rfl ?_
 refine YV.rule (α:=Nat × Int) (0,c1) (fun x_=>[(18,yh x_.1)]) (fun x_ w_=>(x_.1<=xs.length)/\(fst x_.2 (Yh LP (xs.drop x_.1))=fst b (Yi m LP xs))/\Sat g w_ ((Pt pc [yh x_.2] 269::Pt q [yg pc] 267::l))) (fun x_=>xs.length-x_.1) ?_ ?_ ?_
 .exact k_a
 .try simp only
  refine ⟨yp,?_⟩
  constructor
  .exact EI yo
  exact H
 rintro ⟨i,d⟩ f_ w_ ⟨hi,hb,H⟩
 try simp only at hi hb H ⊢
 refine xT (fun c2=>?_) (fun c2=>?_)
 .refine bk ?_
  obtain ⟨x1,hx1⟩:∃x,(xs)[(i)]?=some x:=⟨_,laa yp⟩
  obtain ⟨b1,o1,E1,F1,ZH⟩:=Z0.Y5 hx hx1
  have QI:=ZH.kind
  have RV:=ZH.start
  refine ZI E1 rfl rfl rfl<|ZC (H.Yt F1) 0 rfl rfl rfl<|ZV H rfl<|fun p1 w2 H=>ZG H 0 rfl rfl rfl rfl<|fun w3 H=>Z9 rfl<|ye H 1 0 x9 ?_
  refine xQ (fun c3=>?_) (fun c3=>?_)
  .refine Z6.mk ?_
   refine ⟨d,?_⟩
   constructor
   .exact EF yp hb
   exact H.Z8 [2,2]<|fun H=>H.drop 2<|fun H=>H
  refine ZC (H.at 0 rfl) 0 rfl rfl rfl<|H.Z8 [2,2]<|fun H=>?_
  refine Z7.mk (Fc.imp (YP.akV H _ yp) ?_)
  rintro Wu w2 ⟨c4,⟨h2,H⟩⟩
  refine ZX yp ?_
  refine W0.mk ((i+1,c4)) (Zr rfl yp (ZW)) ?_ ?_
  .refine ⟨yp,?_⟩
   constructor
   .exact ED hx1 yo hb
   exact H.drop 2<|fun H=>H
  omega
 refine Z6.mk ?_
 refine ⟨d,?_⟩
 constructor
 .exact EH yp hb
 exact H
theorem shown (H:Sat g w (Pt pc [yh b] 269::l)) (hT:NR g) (x:xN × Int) (hx:Rm x):xP 184 #[yg pc,.agg #[.string (bs x.1),yh x.2]] w (fun _ w'=>∃c,FE b (Pj x) c/\Sat g w' (Pt pc [yh c] 269::l)):=by
 refine Fc.of Tryz.func184 rfl k_d ?_
 have agL:=hx.name
 have ahU:=hx.ty
 refine ZL H<|fun p1 w1 H=>Z9 rfl<|ye H 0 0 x9<|H.Z8 [1]<|fun H=>?_
 refine Z7.mk (Fc.imp (YP.named H yp _ yp) ?_)
 rintro v' w2 ⟨c1,⟨h1,H⟩⟩
 refine Z9 rfl<|ye H 1 1 x9 ?_
 refine Z7.mk (Fc.imp (YP.index H _) ?_)
 rintro Wu w3 ⟨c2,⟨h2,H⟩⟩
 refine Z6.mk ?_
 refine ⟨c2,?_⟩
 constructor
 .exact FE.two yo yo
 exact H.drop 1<|fun H=>H
theorem aeM (H:Sat g w (Pt pc [yh b] 269::l)) (hT:NR g) (m:Int) (v:Value) (xs:List (xN × Int)) (hx:Z0 g TH Rm 2 v xs):xP 183 #[yg pc,v,yh m,.func (.func 184) #[yg pc] #[]] w (fun _ w'=>∃c,FE b (Yi m Pj xs) c/\Sat g w' (Pt pc [yh c] 269::l)):=by
 refine Fc.of Tryz.func183 rfl k_d ?_
 have hbd:=VF.len hx
 refine ZF hx rfl ?_
 refine Z7.mk (Fc.imp (YP.need H _ _) ?_)
 rintro v' w1 ⟨c1,⟨h1,H⟩⟩
 refine ZF hx rfl ?_
 refine YV.rule (α:=Nat × Int) (0,c1) (fun x_=>[(18,yh x_.1)]) (fun x_ w_=>(x_.1<=xs.length)/\(fst x_.2 (Yh Pj (xs.drop x_.1))=fst b (Yi m Pj xs))/\Sat g w_ ((Pt pc [yh x_.2] 269::l))) (fun x_=>xs.length-x_.1) ?_ ?_ ?_
 .exact k_a
 .try simp only
  refine ⟨yp,?_⟩
  constructor
  .exact EI yo
  exact H
 rintro ⟨i,d⟩ f_ w_ ⟨hi,hb,H⟩
 try simp only at hi hb H ⊢
 refine xT (fun c2=>?_) (fun c2=>?_)
 .refine bk ?_
  obtain ⟨x1,hx1⟩:∃x,(xs)[(i)]?=some x:=⟨_,laa yp⟩
  obtain ⟨b1,o1,E1,F1,ZH⟩:=Z0.Y5 hx hx1
  have Ux:=ZH.name
  have XS:=ZH.ty
  refine ZI E1 rfl rfl rfl<|ZC (H.Yt F1) 0 rfl rfl rfl<|ZV H rfl<|fun p1 w2 H=>ZG H 0 rfl rfl rfl rfl<|fun w3 H=>Z9 rfl<|ye H 1 0 x9 ?_
  refine xQ (fun c3=>?_) (fun c3=>?_)
  .refine Z6.mk ?_
   refine ⟨d,?_⟩
   constructor
   .exact EF yp hb
   exact H.Z8 [1]<|fun H=>H.drop 1<|fun H=>H
  refine ZC (H.at 0 rfl) 0 rfl rfl rfl<|H.Z8 [1]<|fun H=>?_
  refine Z7.mk (Fc.imp (YP.shown H yp _ yp) ?_)
  rintro Wu w2 ⟨c4,⟨h2,H⟩⟩
  refine ZX yp ?_
  refine W0.mk ((i+1,c4)) (Zr rfl yp (ZW)) ?_ ?_
  .refine ⟨yp,?_⟩
   constructor
   .exact ED hx1 yo hb
   exact H.drop 1<|fun H=>H
  omega
 refine Z6.mk ?_
 refine ⟨d,?_⟩
 constructor
 .exact EH yp hb
 exact H
theorem elem (H:Sat g w (Pt pc [yh b] 269::l)) (x:RW) (hx:LL g x):xP 186 #[yg pc,.agg #[yh x.pl,x.vf]] w (fun _ w'=>∃c,FE b (EK x.d) c/\Sat g w' (Pt pc [yh c] 269::l)):=by
 refine Fc.of Tryz.func186 rfl k_d ?_
 have HA:=hx.pl
 have Ql:=hx.fs
 refine ZL H<|fun p1 w1 H=>Z9 rfl<|ye H 0 0 x9<|H.Z8 [1]<|fun H=>?_
 refine Z7.mk (Fc.imp (YP.place H _ yo) ?_)
 rintro v' w2 ⟨c1,⟨h1,H⟩⟩
 refine Z9 rfl<|ye H 1 1 x9 ?_
 refine Z7.mk (Fc.imp (YP.akU H _ _ _ Ql) ?_)
 rintro Wu w3 ⟨c2,⟨h2,H⟩⟩
 refine Z6.mk ?_
 refine ⟨c2,?_⟩
 constructor
 .exact FE.two yo yo
 exact H.drop 1<|fun H=>H
theorem aeN (H:Sat g w (Pt pc [yh b] 269::l)) (m:Int) (v:Value) (xs:List RW) (hx:Z0 g EJ (LL g) 2 v xs):xP 185 #[yg pc,v,yh m,.func (.func 186) #[yg pc] #[]] w (fun _ w'=>∃c,FE b (Yi m (fun x:RW=>EK x.d) xs) c/\Sat g w' (Pt pc [yh c] 269::l)):=by
 refine Fc.of Tryz.func185 rfl k_d ?_
 have hbd:=VF.len hx
 refine ZF hx rfl ?_
 refine Z7.mk (Fc.imp (YP.need H _ _) ?_)
 rintro v' w1 ⟨c1,⟨h1,H⟩⟩
 refine ZF hx rfl ?_
 refine YV.rule (α:=Nat × Int) (0,c1) (fun x_=>[(18,yh x_.1)]) (fun x_ w_=>(x_.1<=xs.length)/\(fst x_.2 (Yh (fun x:RW=>EK x.d) (xs.drop x_.1))=fst b (Yi m (fun x:RW=>EK x.d) xs))/\Sat g w_ ((Pt pc [yh x_.2] 269::l))) (fun x_=>xs.length-x_.1) ?_ ?_ ?_
 .exact k_a
 .try simp only
  refine ⟨yp,?_⟩
  constructor
  .exact EI yo
  exact H
 rintro ⟨i,d⟩ f_ w_ ⟨hi,hb,H⟩
 try simp only at hi hb H ⊢
 refine xT (fun c2=>?_) (fun c2=>?_)
 .refine bk ?_
  obtain ⟨x1,hx1⟩:∃x,(xs)[(i)]?=some x:=⟨_,laa yp⟩
  obtain ⟨b1,o1,E1,F1,ZH⟩:=Z0.Y5 hx hx1
  have Pe:=ZH.pl
  have VB:=ZH.fs
  refine ZI E1 rfl rfl rfl<|ZC (H.Yt F1) 0 rfl rfl rfl<|ZV H rfl<|fun p1 w2 H=>ZG H 0 rfl rfl rfl (by simp only [List.all_cons,List.all_nil,Z0.one VB,Z0.one hx];rfl)<|fun w3 H=>Z9 rfl<|ye H 1 0 x9 ?_
  refine xQ (fun c3=>?_) (fun c3=>?_)
  .refine Z6.mk ?_
   refine ⟨d,?_⟩
   constructor
   .exact EF yp hb
   exact H.Z8 [1]<|fun H=>H.drop 1<|fun H=>H
  refine ZC (H.at 0 rfl) 0 rfl rfl rfl<|H.Z8 [1]<|fun H=>?_
  refine Z7.mk (Fc.imp (YP.elem H _ yp) ?_)
  rintro Wu w2 ⟨c4,⟨h2,H⟩⟩
  refine ZX yp ?_
  refine W0.mk ((i+1,c4)) (Zr rfl yp (ZW)) ?_ ?_
  .refine ⟨yp,?_⟩
   constructor
   .exact ED hx1 yo hb
   exact H.drop 1<|fun H=>H
  omega
 refine Z6.mk ?_
 refine ⟨d,?_⟩
 constructor
 .exact EH yp hb
 exact H
theorem anP (H:Sat g w (Pt pc [yh b] 269::Pt q [yg pc] 267::l)) (x:Int × xN) (hx:Io x):xP 188 #[.agg #[yh x.1,.string (bs x.2)],yg q] w (fun _ w'=>∃c,FE b (LN x) c/\Sat g w' (Pt pc [yh c] 269::Pt q [yg pc] 267::l)):=by
 refine Fc.of Tryz.func188 rfl k_d ?_
 have HA:=hx.pl
 have akW:=hx.bytes
 refine ZL H<|fun p1 w1 H=>ye H 2 0 x9<|Z9 rfl<|ye H 0 0 x9<|H.Z8 [1]<|fun H=>?_
 refine Z7.mk (Fc.imp (YP.place H _ yo) ?_)
 rintro v' w2 ⟨c1,⟨h1,H⟩⟩
 refine ye H 2 0 x9<|Z9 rfl<|ye H 1 1 x9<|Xv rfl ?_
 refine Z7.mk (Fc.imp (YP.need H _ _) ?_)
 rintro Wu w3 ⟨c2,⟨h2,H⟩⟩
 refine Z6.mk ?_
 refine ⟨c2,?_⟩
 constructor
 .exact dt1 h1 yo
 exact H.Z8 [2,1]<|fun H=>H.drop 2<|fun H=>H
theorem aeO (H:Sat g w (Pt pc [yh b] 269::Pt q [yg pc] 267::l)) (m:Int) (v:Value) (xs:List (Int × xN)) (hx:Z0 g G9 Io 2 v xs):xP 187 #[yg pc,v,yh m,.func (.func 188) #[] #[yg q]] w (fun _ w'=>∃c,FE b (Yi m LN xs) c/\Sat g w' (Pt pc [yh c] 269::Pt q [yg pc] 267::l)):=by
 refine Fc.of Tryz.func187 rfl k_d ?_
 have hbd:=VF.len hx
 refine ZF hx rfl ?_
 refine Z7.mk (Fc.imp (YP.need H _ _) ?_)
 rintro v' w1 ⟨c1,⟨h1,H⟩⟩
 refine ZF hx rfl ?_
 refine YV.rule (α:=Nat × Int) (0,c1) (fun x_=>[(18,yh x_.1)]) (fun x_ w_=>(x_.1<=xs.length)/\(fst x_.2 (Yh LN (xs.drop x_.1))=fst b (Yi m LN xs))/\Sat g w_ ((Pt pc [yh x_.2] 269::Pt q [yg pc] 267::l))) (fun x_=>xs.length-x_.1) ?_ ?_ ?_
 .exact k_a
 .try simp only
  refine ⟨yp,?_⟩
  constructor
  .exact EI yo
  exact H
 rintro ⟨i,d⟩ f_ w_ ⟨hi,hb,H⟩
 try simp only at hi hb H ⊢
 refine xT (fun c2=>?_) (fun c2=>?_)
 .refine bk ?_
  obtain ⟨x1,hx1⟩:∃x,(xs)[(i)]?=some x:=⟨_,laa yp⟩
  obtain ⟨b1,o1,E1,F1,ZH⟩:=Z0.Y5 hx hx1
  have Pe:=ZH.pl
  have acq:=ZH.bytes
  refine ZI E1 rfl rfl rfl<|ZC (H.Yt F1) 0 rfl rfl rfl<|ZV H rfl<|fun p1 w2 H=>ZG H 0 rfl rfl rfl rfl<|fun w3 H=>Z9 rfl<|ye H 1 0 x9 ?_
  refine xQ (fun c3=>?_) (fun c3=>?_)
  .refine Z6.mk ?_
   refine ⟨d,?_⟩
   constructor
   .exact EF yp hb
   exact H.Z8 [2,2]<|fun H=>H.drop 2<|fun H=>H
  refine ZC (H.at 0 rfl) 0 rfl rfl rfl<|H.Z8 [2,2]<|fun H=>?_
  refine Z7.mk (Fc.imp (YP.anP H _ yp) ?_)
  rintro Wu w2 ⟨c4,⟨h2,H⟩⟩
  refine ZX yp ?_
  refine W0.mk ((i+1,c4)) (Zr rfl yp (ZW)) ?_ ?_
  .refine ⟨yp,?_⟩
   constructor
   .exact ED hx1 yo hb
   exact H.drop 2<|fun H=>H
  omega
 refine Z6.mk ?_
 refine ⟨d,?_⟩
 constructor
 .exact EH yp hb
 exact H
end
end Go.Proofs.YtakpnepblgfknaaGreatDoor.YP
namespace Go.Proofs.YtakpnepblgfknaaGreatDoor.YP
open Go YY Go.RowKit
open YT Zl X6
section
variable {g:Zz} {w:World} {l:List As}
theorem ahV {a:Int}:L4 (IX 0 a) 1=Cc 0 a:=by
 unfold L4 Cc
 by_cases h:0<=a
 .rw [if_pos (by grind [YM]),if_pos h]
 .rw [if_neg (by grind [YM]),if_neg h]
theorem akX {a m:Int} (h0:0<=a):L4 (IX a m) 1=Jk a m:=by
 unfold L4 Jk
 by_cases h:a<=m
 .rw [if_pos (by grind [YM]),if_pos ⟨h0,h⟩]
 .rw [if_neg (by grind [YM]),if_neg (fun k=>h k.2)]
theorem akY {a m:Int} (h0:a<0):L4 false 1=Jk a m:=by grind [L4,Jk]
theorem acM {m:Zj} {c1 c2 c3 c4 c5 c6 c7 c8 c9 c10 c11 c12 e4 e5 e6 e7:Int} (h1:FE 0 (Yi 16 (fun x=>Ip x.d) m.types) c1) (h2:FE c1 (Yi 16 Pj m.ZA) c2) (h3:FE c2 (Yi 16 (fun x=>Ku x.d) m.funcs) c3)
  (h4:FE c3 e4 c4) (h5:FE c4 e5 c5) (h6:FE c5 e6 c6) (h7:FE c6 e7 c7) (h8:FE c7 (Yi 8 LP m.globals) c8) (h9:FE c8 (Yi 8 Pj m.VR) c9) (h10:FE c9 (Uy m.start) c10)
  (h11:FE c10 (Yi 4 (fun x=>EK x.d) m.elems) c11) (h12:FE c11 (Yi 4 LN m.data) c12) (k4:e4=Cc 0 m.table) (k5:e5=Cb m.table 16) (k6:e6=Jk m.pages m.most) (k7:e7=Cb m.most 8):c12=Oi m.d:=by
 subst k4 k5 k6 k7
 unfold FE at *
 subst h1 h2 h3 h4 h5 h6 h7 h8 h9 h10 h11 h12
 simp only [U7,Wo]
 unfold Oi
 simp only [Zj.d,aaE]
theorem check (H:Sat g w l) (hT:NR g) (m:Zj) (hm:XE g m):xP 128 #[.agg (yl m []).toArray] w (fun v w'=>(∃e,v=yh e/\e=Oi m.d)/\Sat g w' l):=by
 refine Fc.of Tryz.func128 rfl k_d ?_
 have ZP:=hm.types
 have Zu:=hm.ZA
 have ZT:=hm.funcs
 have Ze:=hm.globals
 have Xu:=hm.VR
 have XD:=hm.elems
 have VA:=hm.data
 refine ZL H<|fun p1 w1 H=>Zn rfl rfl rfl<|ZL H<|fun p2 w2 H=>ZV H rfl<|fun p3 w1 H=>Yo H 0 rfl rfl rfl rfl<|fun w2 H=>ye H 0 0 x9<|Z9 rfl<|ye H 2 0 x9<|ye H 0 0 x9<|H.Z8 [1]<|fun H=>?_
 refine Z7.mk (Fc.imp (YP.aiL H _ _ _ ZP) ?_)
 rintro v' w1 ⟨c1,⟨h1,H⟩⟩
 refine ye H 1 0 x9<|Z9 rfl<|ye H 2 1 x9 ?_
 refine Z7.mk (Fc.imp (YP.aiM H yp _ _ _ Zu) ?_)
 rintro Wu w3 ⟨c2,⟨h2,H⟩⟩
 refine ye H 1 0 x9<|Z9 rfl<|ye H 2 2 x9<|ye H 1 0 x9 ?_
 refine Z7.mk (Fc.imp (YP.aiO H _ _ _ ZT) ?_)
 rintro LJ w4 ⟨c3,⟨h3,H⟩⟩
 refine ye H 1 0 x9<|Z9 rfl<|ye H 2 3 x9 ?_
 refine Z7.mk (Fc.imp (YP.need H _ _) ?_)
 rintro Pd w5 ⟨c4,⟨h4,H⟩⟩
 refine ye H 1 0 x9<|Z9 rfl<|ye H 2 3 x9 ?_
 refine Z7.mk (Fc.imp (YP.need H _ _) ?_)
 rintro Ca w6 ⟨c5,⟨h5,H⟩⟩
 refine ye H 1 0 x9<|Z9 rfl<|ye H 2 4 x9 ?_
 refine br (fun c6=>?_) (fun c6=>?_)
 .replace c6:=Xq (c6)
  refine Z9 rfl<|ye H 2 4 x9<|Z9 rfl<|ye H 2 5 x9 ?_
  refine Z7.mk (Fc.imp (YP.need H _ _) ?_)
  rintro ve' w7 ⟨c7,⟨h6,H⟩⟩
  refine ye H 1 0 x9<|Z9 rfl<|ye H 2 5 x9 ?_
  refine Z7.mk (Fc.imp (YP.need H _ _) ?_)
  rintro vf' w8 ⟨c8,⟨h7,H⟩⟩
  refine ye H 1 0 x9<|Z9 rfl<|ye H 2 6 x9 ?_
  refine Z7.mk (Fc.imp (YP.aeL H _ _ _ Ze) ?_)
  rintro vg' w9 ⟨c9,⟨h8,H⟩⟩
  refine ye H 1 0 x9<|Z9 rfl<|ye H 2 7 x9<|ye H 1 0 x9 ?_
  refine Z7.mk (Fc.imp (YP.aeM H yp _ _ _ Xu) ?_)
  rintro vh' Ao ⟨c10,⟨h9,H⟩⟩
  refine ye H 1 0 x9<|Z9 rfl<|ye H 2 8 x9 ?_
  refine Z7.mk (Fc.imp (YP.index H _) ?_)
  rintro v' An ⟨c11,⟨h10,H⟩⟩
  refine ye H 1 0 x9<|Z9 rfl<|ye H 2 9 x9<|ye H 1 0 x9 ?_
  refine Z7.mk (Fc.imp (YP.aeN H _ _ _ XD) ?_)
  rintro v' zz ⟨c12,⟨h11,H⟩⟩
  refine ye H 1 0 x9<|Z9 rfl<|ye H 2 10 x9 ?_
  refine Z7.mk (Fc.imp (YP.aeO H _ _ _ VA) ?_)
  rintro v' w13 ⟨c13,⟨h12,H⟩⟩
  refine ye H 1 0 x9<|Z9 rfl<|ye H 0 0 x9<|Z6.mk ?_
  constructor
  .refine ⟨c13,?_⟩
   constructor
   .simp
   exact acM h1 h2 h3 h4 h5 h6 h7 h8 h9 h10 h11 h12 ahV Jj (akX yp) Jj
  exact xU H [2,1,0]<|fun H=>H
 replace c6:=Xp (c6)
 refine Z7.mk (Fc.imp (YP.need H _ _) ?_)
 rintro ve' w7 ⟨c7,⟨h6,H⟩⟩
 refine ye H 1 0 x9<|Z9 rfl<|ye H 2 5 x9 ?_
 refine Z7.mk (Fc.imp (YP.need H _ _) ?_)
 rintro vf' w8 ⟨c8,⟨h7,H⟩⟩
 refine ye H 1 0 x9<|Z9 rfl<|ye H 2 6 x9 ?_
 refine Z7.mk (Fc.imp (YP.aeL H _ _ _ Ze) ?_)
 rintro vg' w9 ⟨c9,⟨h8,H⟩⟩
 refine ye H 1 0 x9<|Z9 rfl<|ye H 2 7 x9<|ye H 1 0 x9 ?_
 refine Z7.mk (Fc.imp (YP.aeM H yp _ _ _ Xu) ?_)
 rintro vh' Ao ⟨c10,⟨h9,H⟩⟩
 refine ye H 1 0 x9<|Z9 rfl<|ye H 2 8 x9 ?_
 refine Z7.mk (Fc.imp (YP.index H _) ?_)
 rintro v' An ⟨c11,⟨h10,H⟩⟩
 refine ye H 1 0 x9<|Z9 rfl<|ye H 2 9 x9<|ye H 1 0 x9 ?_
 refine Z7.mk (Fc.imp (YP.aeN H _ _ _ XD) ?_)
 rintro v' zz ⟨c12,⟨h11,H⟩⟩
 refine ye H 1 0 x9<|Z9 rfl<|ye H 2 10 x9 ?_
 refine Z7.mk (Fc.imp (YP.aeO H _ _ _ VA) ?_)
 rintro v' w13 ⟨c13,⟨h12,H⟩⟩
 refine ye H 1 0 x9<|Z9 rfl<|ye H 0 0 x9<|Z6.mk ?_
 constructor
 .refine ⟨c13,?_⟩
  constructor
  .simp
  exact acM h1 h2 h3 h4 h5 h6 h7 h8 h9 h10 h11 h12 ahV Jj (akY yp) Jj
 exact xU H [2,1,0]<|fun H=>H
end
end Go.Proofs.YtakpnepblgfknaaGreatDoor.YP
namespace Go.Proofs.YtakpnepblgfknaaGreatDoor.Valid
open Go YY Go.RowKit
open YT Zl X6 YP
structure X9 where
 types:List Xl
 ZA:xO
 Ji:xO
 globals:List (Int × Bool × Int)
 table:Int
 most:Int
def ZB (m:Y3):X9:=⟨m.types,m.ZA.map (·.2),m.funcs.map (·.ty),m.globals,m.table,m.most⟩
def P7 (E:X9) (n:Int):Option Int:=if n<0 then none else if n<E.ZA.length then E.ZA[n.toNat]? else E.Ji[n.toNat-E.ZA.length]?
def Xd (E:X9) (n:Int):Option Xl:=(P7 E n).bind fun k=>E.types[k.toNat]?
structure ZD where
 op:Int
 kind:Int
 base:Nat
 dead:Bool
 under:Bool
def pz:ZD:=⟨0,0,0,false,false⟩
structure Ck where
 stack:xO
 Zk:List ZD
 bad:Int
def Yq (c:Ck) (e:Int):Ck:=if c.bad=0 then { c with bad:=e } else c
def W7 (c:Ck) (k:Int):Ck:=if k≠64 then { c with stack:=c.stack++[k] } else c
def Wn (c:Ck):ZD:=c.Zk.getD (c.Zk.length-1) pz
def Y7 (c:Ck) (want:Int):Ck × Int :=
 if want=64 then (c,64)
 else if c.stack.length=(Wn c).base then (if (Wn c).dead=true then c else Yq c 10,want)
 else
  let k:=c.stack.getD (c.stack.length-1) 0
  let c1:Ck:={ c with stack:=c.stack.take (c.stack.length-1) }
  if k=0 then (c1,want) else if want≠0/\k≠want then (Yq c1 10,k) else (c1,k)
def Xc (c:Ck):xO->Ck
 | []=>c
 | k::r=>(Y7 (Xc c r) k).1
def WH (c:Ck):xO->Ck
 | []=>c
 | k::r=>WH (W7 c k) r
def Uw (c:Ck):Ck:={ c with stack:=c.stack.take (Wn c).base,Zk:=c.Zk.set (c.Zk.length-1) { Wn c with dead:=true } }
def YJ (c:Ck) (n:Int):Ck × ZD:=if c.Zk.length<=n then (Yq c 8,pz) else (c,c.Zk.getD (c.Zk.length-1-n.toNat) pz)
def Zc (p:ZD):Int:=if p.op=3 then 64 else p.kind
def TG (c:Ck):Bool:=if c.Zk=[] then false else (Wn c).dead || (Wn c).under
def VM (c:Ck) (op kind:Int):Ck:={ c with Zk:=c.Zk++[⟨op,kind,c.stack.length,false,TG c⟩] }
def YL (c:Ck):Ck:=if (Y7 c (Wn c).kind).1.stack.length≠(Wn c).base then Yq (Y7 c (Wn c).kind).1 10 else (Y7 c (Wn c).kind).1
def T9 (c:Ck) (a:Int):Ck:=if (YJ c a).1.bad=0 then (Y7 (YJ c a).1 (Zc (YJ c a).2)).1 else (YJ c a).1
def Xg (k:Int):xO->Ck × Bool->Ck × Bool
 | [],s=>s
 | n::r,s=>Xg k r ((YJ s.1 n).1,decide (Zc (YJ s.1 n).2=k) && s.2)
def XC (c:Ck) (a:Int) (tt:xO):Ck :=
 let k:=Zc (YJ c a).2
 let s:=Xg k tt ((YJ c a).1,true)
 if s.1.bad≠0 then s.1 else (Y7 (Y7 (if s.2=true then s.1 else Yq s.1 10) 127).1 k).1
def U6 (c:Ck):Ck :=
 let p:=Wn c
 let c1:=YL c
 if c1.bad=0 then { c1 with Zk:=c1.Zk.take (c1.Zk.length-1)++[⟨5,p.kind,p.base,false,p.under⟩] } else c1
def SQ (c:Ck):Ck :=
 let p:=Wn c
 let c1:=YL c
 let c2:=if p.op=4/\p.kind≠64 then Yq c1 10 else c1
 if c2.bad=0 then W7 { c2 with Zk:=c2.Zk.take (c2.Zk.length-1) } p.kind else c2
def VL (c:Ck) (a:Int):Ck :=
 let k:=Zc (YJ c a).2
 let c1:=(YJ c a).1
 if c1.bad=0 then W7 (Y7 (Y7 c1 127).1 k).1 k else c1
def Zy (c:Ck) (x:ZU):Ck :=
 if x.op=0 then Uw c
 else if x.op=2\/x.op=3 then VM c x.op x.a
 else if x.op=4 then VM (Y7 c 127).1 x.op x.a
 else if x.op=5 then U6 c
 else if x.op=11 then SQ c
 else if x.op=12 then Uw (T9 c x.a)
 else if x.op=13 then VL c x.a
 else if x.op=15 then Uw (Y7 c (c.Zk.getD 0 pz).kind).1
 else if x.op=14 then Uw (XC c x.a x.to)
 else c
def Wc (E:X9) (c:Ck) (x:ZU):Ck :=
 if x.op=16 then
  match Xd E x.a with
  | none=>Yq c 8
  | some t=>WH (Xc c t.Zh) t.out
 else if E.table=0\/(E.types.length:Int)<=x.a then Yq c 8
 else
  let t:=E.types.getD x.a.toNat ⟨[],[]⟩
  WH (Xc (Y7 c 127).1 t.Zh) t.out
def WX (c:Ck):Ck :=
 let s:=Y7 (Y7 c 127).1 0
 let u:=Y7 s.1 s.2
 W7 u.1 u.2
def XV (E:X9) (L:xO) (c:Ck) (x:ZU):Ck :=
 if x.op<35 then
  if (L.length:Int)<=x.a then Yq c 8
  else
   let k:=L.getD x.a.toNat 0
   let c1:=if x.op≠32 then (Y7 c k).1 else c
   if x.op≠33 then W7 c1 k else c1
 else if (E.globals.length:Int)<=x.a then Yq c 8
 else
  let g:=E.globals.getD x.a.toNat (0,false,0)
  if x.op=35 then W7 c g.1
  else (Y7 (if g.2.1=true then c else Yq c 10) g.1).1
def TF (o:Int):Int:=if o=40\/o=44\/o=45\/o=46\/o=47\/o=54\/o=58\/o=59 then 127 else 126
def W6 (o:Int):xO × xO × Bool :=
 if (XK o).2.2=true then ((XK o).1,[(XK o).2.1],true)
 else if 0<wid o/\o<54 then ([127],[TF o],true)
 else if 0<wid o then ([127,TF o],[],true)
 else if o=63 then ([],[127],true)
 else if o=64 then ([127],[127],true)
 else if o=65 then ([],[127],true)
 else if o=66 then ([],[126],true)
 else ([],[],false)
def EC (a:Int):Int:=if a=0 then 1 else if a=1 then 2 else if a=2 then 4 else 8
def WG (E:X9) (c:Ck) (x:ZU):Ck :=
 if E.most=0/\(0<wid x.op\/x.op=63\/x.op=64) then Yq c 8
 else if 0<wid x.op/\(3<x.a\/wid x.op<EC x.a) then Yq c 9
 else WH (Xc c (W6 x.op).1) (W6 x.op).2.1
def YR (E:X9) (L:xO) (c:Ck) (x:ZU):Ck :=
 if x.op=1 then c
 else if x.op<=15 then Zy c x
 else if x.op<=17 then Wc E c x
 else if x.op=26 then (Y7 c 0).1
 else if x.op=27 then WX c
 else if x.op<=36 then XV E L c x
 else WG E c x
def Vo (E:X9) (L:xO):List ZU->Ck->Ck
 | [],c=>c
 | x::r,c=>if (YR E L c x).bad≠0 then YR E L c x else Vo E L r (YR E L c x)
def ZY (t:Xl):Ck:=VM ⟨[],[],0⟩ 2 (t.out.getD 0 64)
def Ss (E:X9) (f:Pk):Int:=(Vo E ((E.types.getD f.ty.toNat ⟨[],[]⟩).Zh++f.loc) f.body (ZY (E.types.getD f.ty.toNat ⟨[],[]⟩))).bad
end Go.Proofs.YtakpnepblgfknaaGreatDoor.Valid
namespace Go.Proofs.YtakpnepblgfknaaGreatDoor.Valid
open Go YY Go.RowKit
open YT Zl X6 YP
def Yf (p:ZD):xM:=[.int .u8 p.op,.int .u8 p.kind,.int .i64 (p.base:Int),.bool p.dead,.bool p.under]
def Is {α:Type} (x y:α):Prop:=y=x
structure Xj (st:xO) (op:List ZD):Prop where
 B9:(op.map (·.base)).Pairwise (·<=·)
 le:∀p,op[op.length-1]?=some p->p.base<=st.length
theorem VU {st:xO} {op:List ZD} {b:Int} {p:ZD} (h:op[op.length-1]?=some p):Wn ⟨st,op,b⟩=p:=by grind [Wn]
theorem Xj.all {st:xO} {op:List ZD} {p:ZD} (h:Xj st op) (hp:op[op.length-1]?=some p):∀q∈op,q.base<=p.base:=by
 intro q hq
 obtain ⟨i,hi,rfl⟩:=lnb.1 hq
 obtain ⟨hl,e⟩:=lba.1 hp
 subst e
 rcases lAa i (op.length-1) with h1|h1
 .have:=(List.pairwise_iff_getElem.1 h.B9) i (op.length-1) (by grind) (by grind) h1
  simpa using this
 .grind
theorem Xj.Jh {st st':xO} {op:List ZD} {p:ZD} (h:Xj st op) (hp:op[op.length-1]?=some p) (hl:p.base<=st'.length):Xj st' op :=
 ⟨h.B9,fun q hq=>by rw [hp] at hq;obtain rfl:=Option.some.inj hq;exact hl⟩
theorem Xj.more {st st':xO} {op:List ZD} (h:Xj st op) (hl:st.length<=st'.length):Xj st' op:=⟨h.B9,fun q hq=>lDa (h.le q hq) hl⟩
theorem Xj.WZ {st:xO} {op:List ZD} (h:Xj st op) (o k:Int) (d u:Bool):Xj st (op++[⟨o,k,st.length,d,u⟩]):=by
 refine ⟨?_,fun q hq=>?_⟩
 .rw [lUa,List.pairwise_append]
  refine ⟨h.B9,by simp,fun a ha c hc=>?_⟩
  obtain ⟨q,hq,rfl⟩:=lbb.1 ha
  have hc:c=st.length:=by grind
  subst hc
  cases hl:op[op.length-1]? with
  | none =>
   have:=List.getElem?_eq_none_iff.1 hl
   have:op.length=0:=by omega
   rw [List.length_eq_zero_iff.1 this] at hq;cases hq
  | some p=>exact lDa (h.all hl q hq) (h.le p hl)
 .grind
theorem Xj.less {st:xO} {op:List ZD} (h:Xj st op):Xj st (op.take (op.length-1)):=by
 refine ⟨by rw [List.map_take];exact h.B9.sublist (List.take_sublist _ _),fun q hq=>?_⟩
 have hm:q∈op:=lBb (lda hq)
 cases hl:op[op.length-1]? with
 | none =>
  have:=List.getElem?_eq_none_iff.1 hl
  have:op.length=0:=by omega
  rw [List.length_eq_zero_iff.1 this] at hm;cases hm
 | some p=>exact lDa (h.all hl q hm) (h.le p hl)
theorem Xj.same {st:xO} {op:List ZD} {p p':ZD} (h:Xj st op) (hp:op[op.length-1]?=some p) (hb:p'.base=p.base):Xj st (op.set (op.length-1) p'):=by
 have hl:=(lba.1 hp).1
 refine ⟨?_,fun q hq=>?_⟩
 .have e:(op.set (op.length-1) p').map (·.base)=op.map (·.base):=by
   apply lFa
   intro i
   rw [List.map_set,lOa]
   split
   .grind
   .rfl
  rw [e];exact h.B9
 .rw [lua,lOa,if_pos rfl,if_pos hl] at hq
  obtain rfl:=Option.some.inj hq
  rw [hb];exact h.le p hp
theorem aeP {op:List ZD} {p p':ZD} (hp:op[op.length-1]?=some p):op.set (op.length-1) p'=op.take (op.length-1)++[p']:=by
 have hl:=(lba.1 hp).1
 apply lFa
 intro i
 rw [lOa]
 split
 .grind
 .grind
section
variable {g:Zz} {w:World} {l:List As} {pc:Nat} {m:Zj} {vl vs vo:Value} {st:xO} {op:List ZD} {b:Int}
theorem aiP {st:xO} {op:List ZD} {b e:Int} (h:b=0):Is (Yq ⟨st,op,b⟩ e) ⟨st,op,e⟩:=(if_pos h:Yq ⟨st,op,b⟩ e=_).symm
theorem aiQ {st:xO} {op:List ZD} {b e:Int} (h:b≠0):Is (Yq ⟨st,op,b⟩ e) ⟨st,op,b⟩:=(if_neg h:Yq ⟨st,op,b⟩ e=_).symm
theorem fail (H:Sat g w (Pt pc (yl m [vl,vs,vo,yh b]) 241::Sl 97 1 Yu vs st::Sl 246 5 Yf vo op::l)) (e:Int):xP 216 #[yg pc,yh e] w (fun _ w'=>∃b',Is (Yq ⟨st,op,b⟩ e) ⟨st,op,b'⟩/\Sat g w' (Pt pc (yl m [vl,vs,vo,yh b']) 241::Sl 97 1 Yu vs st::Sl 246 5 Yf vo op::l)):=by
 refine Fc.of Tryz.func216 rfl k_d<|Z9 rfl<|ye H 0 14 x9 ?_
 refine xR (fun c1=>?_) (fun c1=>?_)
 .refine Z9 rfl<|Yo H 0 rfl rfl rfl rfl<|fun w1 H=>Z6.mk ?_
  refine ⟨e,?_⟩
  constructor
  .exact aiP c1
  exact H
 refine Z6.mk ?_
 refine ⟨b,?_⟩
 constructor
 .exact aiQ c1
 exact H
theorem aiR {st:xO} {op:List ZD} {b k:Int} (h:k≠64):Is (W7 ⟨st,op,b⟩ k) ⟨st++[k],op,b⟩:=(if_pos h:W7 ⟨st,op,b⟩ k=_).symm
theorem aiS {st:xO} {op:List ZD} {b k:Int} (h:k=64):Is (W7 ⟨st,op,b⟩ k) ⟨st,op,b⟩:=(if_neg (fun n=>n h):W7 ⟨st,op,b⟩ k=_).symm
theorem push (H:Sat g w (Pt pc (yl m [vl,vs,vo,yh b]) 241::Sl 97 1 Yu vs st::Sl 246 5 Yf vo op::l)) (k:Int) (hst:st.length<=100000):xP 217 #[yg pc,.int .u8 k] w (fun _ w'=>∃vs' st',Is (W7 ⟨st,op,b⟩ k) ⟨st',op,b⟩/\st.length<=st'.length/\st'.length<=st.length+1/\Sat g w' (Pt pc (yl m [vl,vs',vo,yh b]) 241::Sl 97 1 Yu vs' st'::Sl 246 5 Yf vo op::l)):=by
 refine Fc.of Tryz.func217 rfl k_d ?_
 refine xQ (fun c1=>?_) (fun c1=>?_)
 .refine Z9 rfl<|ye H 0 12 x9<|ZZ H rfl rfl rfl rfl<|fun p1 w1 H=>WO (ys:=[_]) 1 H 2 rfl (H.at 0 rfl) rfl (fun y _=>rfl) rfl rfl rfl yp yp<|fun v1 w2 H=>Z9 rfl<|Yo H 1 rfl rfl rfl (H.one 2 rfl)<|fun w1 H=>Z6.mk ?_
  refine ⟨v1,st++[k],?_⟩
  constructor
  .exact aiR c1
  constructor
  .simp
  constructor
  .simp
  exact H.Z8 [3,3,3]<|fun H=>H.drop 3<|fun H=>H
 refine Z6.mk ?_
 refine ⟨vs,st,?_⟩
 constructor
 .exact aiS c1
 refine ⟨yp,?_⟩
 refine ⟨yp,?_⟩
 exact H
theorem top (H:Sat g w (Pt pc (yl m [vl,vs,vo,yh b]) 241::Sl 97 1 Yu vs st::Sl 246 5 Yf vo op::l)) (p:ZD) (hp:op[op.length-1]?=some p) (hn:0<op.length) (hop:op.length<=100):xP 132 #[yg pc] w (fun r w'=>∃b0 o0,r=.pointer (some ⟨b0,o0,none⟩)/\El vo 5 (op.length-1) b0 o0/\Sat g w' (Pt pc (yl m [vl,vs,vo,yh b]) 241::Sl 97 1 Yu vs st::Sl 246 5 Yf vo op::l)):=by
 refine Fc.of Tryz.func132 rfl k_d<|ZN H [] [yfp0,yfp1,yfp2,yfh3,yfp4,yfp5,yfp6,yfh7,yfp8,yfp9,yfp10,yfp11] mixed k_d k_d<|fun w1 H=>yc rfl rfl<|yd 0 13 x9 rfl<|yc rfl rfl<|yd 0 13 x9 rfl ?_
 obtain ⟨a1,c1,V1⟩:=H.form 2 rfl
 refine tk (fun _ Z=>XQ V1 rfl yj)<|ZX yp ?_
 obtain ⟨b1,o1,E1⟩:=H.Y5 2 rfl ((op.length)-1) yp
 refine tk (fun _ Z=>ZI E1 yp rfl rfl yj)<|Z6.mk ?_
 refine ⟨b1,o1,?_⟩
 refine ⟨rfl,?_⟩
 refine ⟨yo,?_⟩
 exact H
end
end Go.Proofs.YtakpnepblgfknaaGreatDoor.Valid
namespace Go.Proofs.YtakpnepblgfknaaGreatDoor.Valid
open Go YY Go.RowKit
open YT Zl X6 YP
section
variable {g:Zz} {w:World} {l:List As} {pc:Nat} {m:Zj} {vl vs vo:Value} {st:xO} {op:List ZD} {b:Int}
theorem TE {want:Int} (h:want=64):Is (Y7 ⟨st,op,b⟩ want) (⟨st,op,b⟩,want):=by
 subst h;exact (if_pos rfl:Y7 ⟨st,op,b⟩ 64=_).symm
theorem anQ {want:Int} {p:ZD} (h:want≠64) (hp:op[op.length-1]?=some p) (he:st.length=p.base) (hd:p.dead=true):Is (Y7 ⟨st,op,b⟩ want) (⟨st,op,b⟩,want):=by
 unfold Is Y7
 rw [if_neg h,VU hp,if_pos he,if_pos hd]
theorem anR {want b':Int} {p:ZD} (h:want≠64) (hp:op[op.length-1]?=some p) (he:st.length=p.base) (hd:p.dead=false) (hf:Is (Yq ⟨st,op,b⟩ 10) ⟨st,op,b'⟩):Is (Y7 ⟨st,op,b⟩ want) (⟨st,op,b'⟩,want):=by
 unfold Is at *
 unfold Y7
 rw [if_neg h,VU hp,if_pos he,if_neg (by grind),<-hf]
theorem anS {want k:Int} {p:ZD} (h:want≠64) (hp:op[op.length-1]?=some p) (he:¬st.length=p.base) (hk:st[st.length-1]?=some k) (h0:k=0):Is (Y7 ⟨st,op,b⟩ want) (⟨st.take (st.length-1),op,b⟩,want):=by
 unfold Is Y7
 rw [if_neg h,VU hp,if_neg he,lha,hk]
 exact (if_pos h0).symm
theorem anT {want k b':Int} {p:ZD} (h:want≠64) (hp:op[op.length-1]?=some p) (he:¬st.length=p.base) (hk:st[st.length-1]?=some k) (h0:k≠0) (h1:want≠0) (h2:k≠want) (hf:Is (Yq ⟨st.take (st.length-1),op,b⟩ 10) ⟨st.take (st.length-1),op,b'⟩):Is (Y7 ⟨st,op,b⟩ want) (⟨st.take (st.length-1),op,b'⟩,k):=by
 unfold Is at *
 unfold Y7
 rw [if_neg h,VU hp,if_neg he,lha,hk,hf]
 simp only [Option.getD_some]
 rw [if_neg h0,if_pos ⟨h1,h2⟩]
theorem akZ {want k:Int} {p:ZD} (h:want≠64) (hp:op[op.length-1]?=some p) (he:¬st.length=p.base) (hk:st[st.length-1]?=some k) (h0:k≠0) (h1:want=0\/k=want):Is (Y7 ⟨st,op,b⟩ want) (⟨st.take (st.length-1),op,b⟩,k):=by
 unfold Is Y7
 rw [if_neg h,VU hp,if_neg he,lha,hk]
 simp only [Option.getD_some]
 rw [if_neg h0,if_neg yp]
theorem pop (H:Sat g w (Pt pc (yl m [vl,vs,vo,yh b]) 241::Sl 97 1 Yu vs st::Sl 246 5 Yf vo op::l)) (want:Int) (hn:0<op.length) (hop:op.length<=100) (hst:st.length<=100000) (hok:Xj st op):xP 192 #[yg pc,.int .u8 want] w (fun r w'=>∃k vs' st' b',r=.int .u8 k/\Is (Y7 ⟨st,op,b⟩ want) (⟨st',op,b'⟩,k)/\Xj st' op/\st'.length<=st.length/\Sat g w' (Pt pc (yl m [vl,vs',vo,yh b']) 241::Sl 97 1 Yu vs' st'::Sl 246 5 Yf vo op::l)):=by
 obtain ⟨p,hp⟩:∃p,op[op.length-1]?=some p:=⟨_,laa yp⟩
 have hle:=hok.le p hp
 refine Fc.of Tryz.func192 rfl k_d ?_
 refine xR (fun c1=>?_) (fun c1=>?_)
 .refine Z6.mk ?_
  refine ⟨want,vs,st,b,?_⟩
  constructor
  .simp
  constructor
  .exact TE yo
  refine ⟨yp,?_⟩
  refine ⟨yp,?_⟩
  exact H
 refine Z7.mk (Fc.imp (Valid.top H _ hp yp yp) ?_)
 rintro _ w1 ⟨Fq,⟨C9,⟨rfl,⟨h1,H⟩⟩⟩⟩
 refine ZN H [] [yfp0,yfp1,yfp2,yfh3,yfp4,yfp5,yfp6,yfp7,yfh8,yfp9] mixed k_d k_d<|fun w2 H=>yc rfl rfl<|yd 0 12 x9 rfl ?_
 obtain ⟨a1,c2,V1⟩:=H.form 1 rfl
 refine tk (fun _ Z=>XQ V1 rfl yj)<|yc rfl rfl<|tk (fun _ Z=>xW (Z.el 2 rfl h1 hp) 2 xV yj) ?_
 refine xR (fun c3=>?_) (fun c3=>?_)
 .refine Z9 rfl<|xW (H.el 2 rfl h1 hp) 3 xV ?_
  refine cI (fun c4=>?_) (fun c4=>?_)
  .replace c4:=Sw (c4)
   refine Z7.mk (Fc.imp (Valid.fail H _) ?_)
   rintro v' w1 ⟨XF,⟨h2,H⟩⟩
   refine Z6.mk ?_
   refine ⟨want,vs,st,XF,?_⟩
   constructor
   .simp
   constructor
   .exact anR yo hp yp yo yo
   refine ⟨yp,?_⟩
   refine ⟨yp,?_⟩
   exact H
  replace c4:=Sv (c4)
  refine Z6.mk ?_
  refine ⟨want,vs,st,b,?_⟩
  constructor
  .simp
  constructor
  .exact anQ yo hp yp yo
  refine ⟨yp,?_⟩
  refine ⟨yp,?_⟩
  exact H
 refine ZN H [] [yfp0,yfp1,yfp2,yfh3,yfp4,yfp5,yfp6,yfh7,yfp8,yfp9,yfp10,yfh11,yfp12] mixed k_d k_d<|fun w1 H=>yc rfl rfl<|yd 0 12 x9 rfl<|yc rfl rfl<|yd 0 12 x9 rfl<|tk (fun _ Z=>XQ V1 rfl yj)<|ZX yp ?_
 obtain ⟨x1,hx1⟩:∃x,(st)[((st.length)-1)]?=some x:=⟨_,laa yp⟩
 obtain ⟨b1,o1,E1⟩:=H.Y5 1 rfl ((st.length)-1) yp
 refine tk (fun _ Z=>ZI E1 yp rfl rfl yj)<|tk (fun _ Z=>xW (Z.el 1 rfl E1 hx1) 0 xV yj)<|ZN H [] [yfp0,yfp1,yfp2,yfp3,yfh4,yfp5,yfp6,yfp7,yfh8,yfp9,yfp10,yfp11,yfp12,yfp13,yffr14] mixed k_d k_d<|fun w2 H=>yc rfl rfl<|yd 0 12 x9 rfl<|yc rfl rfl<|yd 0 12 x9 rfl<|tk (fun _ Z=>XQ V1 rfl yj)<|ZX yp ?_
 obtain ⟨v1,V2⟩:=H.vw 1 rfl (0) (((st.length)-1)) yp yp
 refine tk (fun _ Z=>Wp V2 rfl rfl (.inl yj) (.inr ⟨_,by first|rfl|(congr 2;omega)⟩) yj)<|yc rfl rfl<|Yo H 0 rfl rfl rfl (by simp only [Bool.and_true,H.one 1 rfl,H.one 2 rfl,Vw.one V2])<|fun w1 H=>?_
 replace H:=H.KF 1 rfl V2
 simp only [List.set_cons_succ,List.set_cons_zero] at H
 refine bk ?_
 refine xR (fun c4=>?_) (fun c4=>?_)
 .refine Z6.mk ?_
  refine ⟨want,v1,List.take (st.length-1) st,b,?_⟩
  constructor
  .simp
  constructor
  .exact anS yo hp yp hx1 yo
  constructor
  .exact hok.Jh hp (by grind)
  constructor
  .simp
  exact H
 refine br (fun c5=>?_) (fun c5=>?_)
 .replace c5:=YG (c5)
  refine xQ (fun c6=>?_) (fun c6=>?_)
  .refine Z7.mk (Fc.imp (Valid.fail H _) ?_)
   rintro v' w2 ⟨XF,⟨h2,H⟩⟩
   refine Z6.mk ?_
   refine ⟨x1,v1,List.take (st.length-1) st,XF,?_⟩
   constructor
   .simp
   constructor
   .exact anT yo hp yp hx1 yo yo yo yo
   constructor
   .exact hok.Jh hp (by grind)
   constructor
   .simp
   exact H
  refine Z6.mk ?_
  refine ⟨x1,v1,List.take (st.length-1) st,b,?_⟩
  constructor
  .simp
  constructor
  .exact akZ yo hp yp hx1 yo yp
  constructor
  .exact hok.Jh hp (by grind)
  constructor
  .simp
  exact H
 replace c5:=YF (c5)
 refine cF rfl<|Z6.mk ?_
 refine ⟨x1,v1,List.take (st.length-1) st,b,?_⟩
 constructor
 .simp
 constructor
 .exact akZ yo hp yp hx1 yo yp
 constructor
 .exact hok.Jh hp (by grind)
 constructor
 .simp
 exact H
end
end Go.Proofs.YtakpnepblgfknaaGreatDoor.Valid
namespace Go.Proofs.YtakpnepblgfknaaGreatDoor.Valid
open Go YY Go.RowKit
open YT Zl X6 YP
section
variable {g:Zz} {w:World} {l:List As} {pc:Nat} {m:Zj} {vl vs vo:Value} {st:xO} {op:List ZD} {b:Int}
theorem acr {st:xO} {b:Int}:TG ⟨st,[],b⟩=false:=if_pos rfl
theorem adx {p:ZD} (hp:op[op.length-1]?=some p):TG ⟨st,op,b⟩=(p.dead || p.under):=by
 have hne:op≠[]:=by grind
 unfold TG
 rw [if_neg hne,VU hp]
theorem Im {o k:Int} {u:Bool} (h:TG ⟨st,op,b⟩=u):Is (VM ⟨st,op,b⟩ o k) ⟨st,op++[⟨o,k,st.length,false,u⟩],b⟩:=by grind [Is,VM]
theorem WZ (H:Sat g w (Pt pc (yl m [vl,vs,vo,yh b]) 241::Sl 97 1 Yu vs st::Sl 246 5 Yf vo op::l)) (o k:Int) (hop:op.length<=100) (hst:st.length<=100000) (hok:Xj st op):xP 131 #[yg pc,.int .u8 o,.int .u8 k] w (fun r w'=>∃SI op',Is (VM ⟨st,op,b⟩ o k) ⟨st,op',b⟩/\Xj st op'/\op'.length=op.length+1/\Sat g w' (Pt pc (yl m [vl,vs,SI,yh b]) 241::Sl 97 1 Yu vs st::Sl 246 5 Yf SI op'::l)):=by
 rcases lOb op.length with h0|h0
 .obtain rfl:=lma h0
  refine Fc.of Tryz.func131 rfl k_d<|Z9 rfl<|ye H 0 13 x9<|YN H 2 rfl rfl<|cF (Zs yp)<|ZN H [] [yfp0,yfp1,yfp2,yfp3,yfh4,yfp5,yfp6,yfp7,yfp8,yfp9,yfh10,yfp11,yfp12,yfp13,yff14,yffr15,yfp16,yfp17,yffr18] mixed k_d k_d<|fun w1 H=>yc rfl rfl<|yd 0 13 x9 rfl<|yc rfl rfl<|yd 0 12 x9 rfl ?_
  obtain ⟨a1,c1,V1⟩:=H.form 1 rfl
  refine tk (fun _ Z=>XQ V1 rfl yj)<|tk (fun _ Z=>Zn rfl rfl rfl yj)<|ZZ H rfl rfl rfl rfl<|fun p1 w2 H=>Y2.mk (H.drop 0 (fun H=>H))<|WO (ys:=[⟨_,_,_,_,_⟩]) 24 H 3 rfl (H.at 0 rfl) rfl (fun y _=>rfl) rfl rfl rfl yp yp<|fun v1 w1 H=>yc rfl rfl<|Yo H 1 rfl rfl rfl (H.one 3 rfl)<|fun w2 H=>Z6.mk ?_
  refine ⟨v1,[]++[{ op:=o,kind:=k,base:=st.length,dead:=false,under:=false }],?_⟩
  constructor
  .exact Im acr
  constructor
  .exact hok.WZ _ _ _ _
  refine ⟨rfl,?_⟩
  exact H.Z8 [3,3,3]<|fun H=>H.drop 3<|fun H=>H
 .obtain ⟨p,hp⟩:∃p,op[op.length-1]?=some p:=⟨_,laa yp⟩
  have hu:=adx (st:=st) (b:=b) hp
  cases hd:p.dead
  .rw [hd] at hu
   refine Fc.of Tryz.func131 rfl k_d<|Z9 rfl<|ye H 0 13 x9<|YN H 2 rfl rfl<|cT (Y9 yp) ?_
   refine Z7.mk (Fc.imp (Valid.top H _ hp yp yp) ?_)
   rintro _ w1 ⟨Fq,⟨C9,⟨rfl,⟨h1,H⟩⟩⟩⟩
   refine Z9 rfl<|xW (H.el 2 rfl h1 hp) 3 xV<|XP (yo) ?_
   refine Z7.mk (Fc.imp (Valid.top H _ hp yp yp) ?_)
   rintro _ w2 ⟨b02,⟨o02,⟨rfl,⟨h2,H⟩⟩⟩⟩
   refine Z9 rfl<|xW (H.el 2 rfl h2 hp) 4 xV<|ZN H [] [yfp0,yfp1,yfp2,yfp3,yfh4,yfp5,yfp6,yfp7,yfp8,yfp9,yfh10,yfp11,yfp12,yfp13,yff14,yffr15,yfp16,yfp17,yffr18] mixed k_d k_d<|fun w3 H=>yc rfl rfl<|yd 0 13 x9 rfl<|yc rfl rfl<|yd 0 12 x9 rfl ?_
   obtain ⟨a1,c1,V1⟩:=H.form 1 rfl
   refine tk (fun _ Z=>XQ V1 rfl yj)<|tk (fun _ Z=>Zn rfl rfl rfl yj)<|ZZ H rfl rfl rfl rfl<|fun p1 w2 H=>Y2.mk (H.drop 0 (fun H=>H))<|WO (ys:=[⟨_,_,_,_,_⟩]) 24 H 3 rfl (H.at 0 rfl) rfl (fun y _=>rfl) rfl rfl rfl yp yp<|fun v1 w3 H=>yc rfl rfl<|Yo H 1 rfl rfl rfl (H.one 3 rfl)<|fun w2 H=>Z6.mk ?_
   refine ⟨v1,op++[{ op:=o,kind:=k,base:=st.length,dead:=false,under:=p.5 }],?_⟩
   constructor
   .exact Im hu
   constructor
   .exact hok.WZ _ _ _ _
   constructor
   .simp
   exact H.Z8 [3,3,3]<|fun H=>H.drop 3<|fun H=>H
  .rw [hd] at hu
   refine Fc.of Tryz.func131 rfl k_d<|Z9 rfl<|ye H 0 13 x9<|YN H 2 rfl rfl<|cT (Y9 yp) ?_
   refine Z7.mk (Fc.imp (Valid.top H _ hp yp yp) ?_)
   rintro _ w1 ⟨Fq,⟨C9,⟨rfl,⟨h1,H⟩⟩⟩⟩
   refine Z9 rfl<|xW (H.el 2 rfl h1 hp) 3 xV<|Vt (yo)<|ZN H [] [yfp0,yfp1,yfp2,yfp3,yfh4,yfp5,yfp6,yfp7,yfp8,yfp9,yfh10,yfp11,yfp12,yfp13,yff14,yffr15,yfp16,yfp17,yffr18] mixed k_d k_d<|fun w2 H=>yc rfl rfl<|yd 0 13 x9 rfl<|yc rfl rfl<|yd 0 12 x9 rfl ?_
   obtain ⟨a1,c1,V1⟩:=H.form 1 rfl
   refine tk (fun _ Z=>XQ V1 rfl yj)<|tk (fun _ Z=>Zn rfl rfl rfl yj)<|ZZ H rfl rfl rfl rfl<|fun p1 w1 H=>Y2.mk (H.drop 0 (fun H=>H))<|WO (ys:=[⟨_,_,_,_,_⟩]) 24 H 3 rfl (H.at 0 rfl) rfl (fun y _=>rfl) rfl rfl rfl yp yp<|fun v1 w2 H=>yc rfl rfl<|Yo H 1 rfl rfl rfl (H.one 3 rfl)<|fun w1 H=>Z6.mk ?_
   refine ⟨v1,op++[{ op:=o,kind:=k,base:=st.length,dead:=false,under:=true }],?_⟩
   constructor
   .exact Im hu
   constructor
   .exact hok.WZ _ _ _ _
   constructor
   .simp
   exact H.Z8 [3,3,3]<|fun H=>H.drop 3<|fun H=>H
theorem anU {p:ZD} (hp:op[op.length-1]?=some p):Is (Uw ⟨st,op,b⟩) ⟨st.take p.base,op.set (op.length-1) ⟨p.op,p.kind,p.base,true,p.under⟩,b⟩:=by grind [Is,Uw,VU]
theorem die (H:Sat g w (Pt pc (yl m [vl,vs,vo,yh b]) 241::Sl 97 1 Yu vs st::Sl 246 5 Yf vo op::l)) (hn:0<op.length) (hop:op.length<=100) (hst:st.length<=100000) (hok:Xj st op):xP 214 #[yg pc] w (fun r w'=>∃vs' st' op',Is (Uw ⟨st,op,b⟩) ⟨st',op',b⟩/\Xj st' op'/\st'.length<=st.length/\op'.length=op.length/\Sat g w' (Pt pc (yl m [vl,vs',vo,yh b]) 241::Sl 97 1 Yu vs' st'::Sl 246 5 Yf vo op'::l)):=by
 obtain ⟨p,hp⟩:∃p,op[op.length-1]?=some p:=⟨_,laa yp⟩
 have hle:=hok.le p hp
 refine Fc.of Tryz.func214 rfl k_d ?_
 refine Z7.mk (Fc.imp (Valid.top H _ hp yp yp) ?_)
 rintro _ w1 ⟨Fq,⟨C9,⟨rfl,⟨h1,H⟩⟩⟩⟩
 refine ZN H [] [yfp0,yfp1,yfp2,yfp3,yfh4,yfp5,yfp6,yfp7,yfh8,yfp9,yfp10,yfp11,yffr12] mixed k_d k_d<|fun w2 H=>yc rfl rfl<|yd 0 12 x9 rfl<|yc rfl rfl<|tk (fun _ Z=>xW (Z.el 2 rfl h1 hp) 2 xV yj) ?_
 obtain ⟨v1,V1⟩:=H.vw 1 rfl (0) ((p.base)) yp yp
 refine tk (fun _ Z=>Wp V1 rfl rfl (.inl yj) (.inr ⟨_,by first|rfl|(congr 2;omega)⟩) yj)<|yc rfl rfl<|Yo H 0 rfl rfl rfl (by simp only [Bool.and_true,H.one 1 rfl,H.one 2 rfl,Vw.one V1])<|fun w1 H=>Z9 rfl<|Yl H 2 rfl h1 hp 3 ⟨p.op,p.kind,p.base,true,p.under⟩ rfl rfl rfl rfl<|fun w2 H=>?_
 replace H:=H.KF 1 rfl V1
 simp only [List.set_cons_succ,List.set_cons_zero] at H
 refine Z6.mk ?_
 refine ⟨v1,List.take p.base st,op.set (op.length-1) { op:=p.op,kind:=p.kind,base:=p.base,dead:=true,under:=p.under },?_⟩
 constructor
 .exact anU hp
 constructor
 .exact (hok.Jh hp (by grind)).same hp rfl
 constructor
 .grind
 constructor
 .simp
 exact H
end
end Go.Proofs.YtakpnepblgfknaaGreatDoor.Valid
namespace Go.Proofs.YtakpnepblgfknaaGreatDoor.Valid
open Go YY Go.RowKit
open YT Zl X6 YP
section
variable {g:Zz} {w:World} {l:List As} {pc:Nat} {m:Zj} {vl vs vo:Value} {st:xO} {op:List ZD} {b:Int}
theorem along (p:ZD) (w:World):xP 220 #[.agg #[.int .u8 p.op,.int .u8 p.kind,yh (p.base:Int),.bool p.dead,.bool p.under]] w (fun v w'=>(∃k,v=.int .u8 k/\k=Zc p)/\Sat (Wy w) w' []):=by
 refine Fc.of Tryz.func220 rfl k_d ?_
 have H:=Sat.start w
 refine ZL H<|fun p1 w1 H=>Z9 rfl<|ye H 0 0 x9 ?_
 refine xR (fun c1=>?_) (fun c1=>?_)
 .refine Z6.mk ?_
  constructor
  .refine ⟨64,?_⟩
   constructor
   .simp
   exact (if_pos yo).symm
  exact H.firsts 0<|fun H=>H
 refine Z9 rfl<|ye H 0 1 x9<|Z6.mk ?_
 constructor
 .refine ⟨p.kind,?_⟩
  constructor
  .simp
  exact (if_neg yo).symm
 exact H.firsts 0<|fun H=>H
theorem anV {n b':Int} (h:(op.length:Int)<=n) (hf:Is (Yq ⟨st,op,b⟩ 8) ⟨st,op,b'⟩):Is (YJ ⟨st,op,b⟩ n) (⟨st,op,b'⟩,pz):=by grind [Is,YJ]
theorem anW {k:Nat} {p:ZD} (h:k<op.length) (hp:op[op.length-1-k]?=some p):Is (YJ ⟨st,op,b⟩ (k:Int)) (⟨st,op,b⟩,p):=by grind [Is,YJ]
theorem out (H:Sat g w (Pt pc (yl m [vl,vs,vo,yh b]) 241::Sl 97 1 Yu vs st::Sl 246 5 Yf vo op::l)) (n:Int) (h0:0<=n/\n<=9223372036854775807) (hop:op.length<=100):xP 219 #[yg pc,yh n] w (fun r w'=>∃b' p,r=.agg #[.int .u8 p.op,.int .u8 p.kind,yh (p.base:Int),.bool p.dead,.bool p.under]/\Is (YJ ⟨st,op,b⟩ n) (⟨st,op,b'⟩,p)/\Sat g w' (Pt pc (yl m [vl,vs,vo,yh b']) 241::Sl 97 1 Yu vs st::Sl 246 5 Yf vo op::l)):=by
 obtain ⟨k,rfl⟩:∃k:Nat,n=k:=⟨n.toNat,by omega⟩
 refine Fc.of Tryz.func219 rfl k_d ?_
 rcases lAa k op.length with hk|hk
 .obtain ⟨p,hp⟩:∃p,op[op.length-1-k]?=some p:=⟨_,laa yp⟩
  refine ZV H rfl<|fun p1 w1 H=>Z9 rfl<|ye H 1 13 x9<|YN H 3 rfl rfl<|cF (Yy yp)<|ZN H [] [yfp0,yfp1,yfp2,yfh3,yfp4,yfp5,yfp6,yfh7,yfp8,yfp9,yfp10,yfp11,yfp12,yfh13,yffr14] mixed k_d k_d<|fun w2 H=>yc rfl rfl<|yd 1 13 x9 rfl<|yc rfl rfl<|yd 1 13 x9 rfl ?_
  obtain ⟨a1,c1,V1⟩:=H.form 3 rfl
  refine tk (fun _ Z=>XQ V1 rfl yj)<|ZX yp<|ZX yp ?_
  obtain ⟨b1,o1,E1⟩:=H.Y5 3 rfl (((op.length)-1)-(k)) yp
  exact tk (fun _ Z=>ZI E1 yp rfl rfl yj)<|tk (fun _ Z=>ZC (Z.el 3 rfl E1 hp) 0 rfl rfl rfl yj)<|ZG H 0 rfl rfl rfl rfl<|fun w1 H=>XM (H.at 0 rfl) 0 rfl rfl rfl<|Z6.mk ⟨_,p,rfl,anW hk hp,H.del 0⟩
 .refine ZV H rfl<|fun p1 w1 H=>Z9 rfl<|ye H 1 13 x9<|YN H 3 rfl rfl<|cT (Yc yp)<|H.Z8 [3,3,3]<|fun H=>?_
  refine Z7.mk (Fc.imp (Valid.fail H _) ?_)
  rintro v' w2 ⟨XF,⟨h1,H⟩⟩
  exact Zn rfl rfl rfl<|ZG H 3 rfl rfl rfl rfl<|fun w3 H=>XM (H.at 3 rfl) 0 rfl rfl rfl<|Z6.mk ⟨_,pz,rfl,anV yp yo,H.del 3⟩
theorem aiT {p:ZD} {k:Int} {st':xO} {b':Int} (hp:op[op.length-1]?=some p) (h:Is (Y7 ⟨st,op,b⟩ p.kind) (⟨st',op,b'⟩,k)) (hl:st'.length=p.base):Is (YL ⟨st,op,b⟩) ⟨st',op,b'⟩:=by
 unfold Is at *
 unfold YL
 rw [VU hp,<-h]
 simp only
 rw [if_neg (fun n=>n hl)]
theorem aiU {p:ZD} {k:Int} {st':xO} {b' b'':Int} (hp:op[op.length-1]?=some p) (h:Is (Y7 ⟨st,op,b⟩ p.kind) (⟨st',op,b'⟩,k)) (hl:st'.length≠p.base) (hf:Is (Yq ⟨st',op,b'⟩ 10) ⟨st',op,b''⟩):Is (YL ⟨st,op,b⟩) ⟨st',op,b''⟩:=by
 unfold Is at *
 unfold YL
 rw [VU hp,<-h]
 simp only
 rw [if_pos hl,<-hf]
theorem close (H:Sat g w (Pt pc (yl m [vl,vs,vo,yh b]) 241::Sl 97 1 Yu vs st::Sl 246 5 Yf vo op::l)) (p:ZD) (hp:op[op.length-1]?=some p) (hn:0<op.length) (hop:op.length<=100) (hst:st.length<=100000) (hok:Xj st op):xP 215 #[yg pc] w (fun r w'=>∃vs' st' b',r=.agg #[.int .u8 p.op,.int .u8 p.kind,yh (p.base:Int),.bool p.dead,.bool p.under]/\Is (YL ⟨st,op,b⟩) ⟨st',op,b'⟩/\Xj st' op/\st'.length<=st.length/\Sat g w' (Pt pc (yl m [vl,vs',vo,yh b']) 241::Sl 97 1 Yu vs' st'::Sl 246 5 Yf vo op::l)):=by
 refine Fc.of Tryz.func215 rfl k_d<|ZV H rfl<|fun p1 w1 H=>H.Z8 [3,3,3]<|fun H=>?_
 refine Z7.mk (Fc.imp (Valid.top H _ hp yp yp) ?_)
 rintro _ w2 ⟨Fq,⟨C9,⟨rfl,⟨h1,H⟩⟩⟩⟩
 refine ZC (H.el 2 rfl h1 hp) 0 rfl rfl rfl<|ZV H rfl<|fun p2 w3 H=>ZG H 0 rfl rfl rfl rfl<|fun w2 H=>Z9 rfl<|ye H 0 1 x9<|H.Z8 [3,3,3]<|fun H=>?_
 refine Z7.mk (Fc.imp (Valid.pop H _ yp yp yp yp) ?_)
 rintro _ w3 ⟨k1,⟨Zt,⟨YX,⟨XF,⟨rfl,⟨h2,⟨h3,⟨h4,H⟩⟩⟩⟩⟩⟩⟩⟩
 refine ZN H [] [yfp0,yfp1,yfp2,yfh3,yfp4,yfp5,yfh6,yfp7] mixed k_d k_d<|fun w4 H=>yc rfl rfl<|yd 0 12 x9 rfl ?_
 obtain ⟨a1,c1,V1⟩:=H.form 1 rfl
 refine tk (fun _ Z=>XQ V1 rfl yj)<|yc rfl rfl<|yd 3 2 x9 rfl ?_
 refine xQ (fun c2=>?_) (fun c2=>?_)
 .refine Z7.mk (Fc.imp (Valid.fail H _) ?_)
  rintro v' w3 ⟨IQ,⟨h5,H⟩⟩
  refine ZC (H.at 3 rfl) 0 rfl rfl rfl<|ZG H 4 rfl rfl rfl rfl<|fun w5 H=>XM (H.at 4 rfl) 0 rfl rfl rfl<|Z6.mk ?_
  refine ⟨Zt,YX,IQ,?_⟩
  refine ⟨rfl,?_⟩
  constructor
  .exact aiU hp yo yp yo
  refine ⟨yp,?_⟩
  refine ⟨yp,?_⟩
  exact xU H [4,3]<|fun H=>H
 refine ZC (H.at 3 rfl) 0 rfl rfl rfl<|ZG H 4 rfl rfl rfl rfl<|fun w3 H=>XM (H.at 4 rfl) 0 rfl rfl rfl<|Z6.mk ?_
 refine ⟨Zt,YX,XF,?_⟩
 refine ⟨rfl,?_⟩
 constructor
 .exact aiT hp yo yp
 refine ⟨yp,?_⟩
 refine ⟨yp,?_⟩
 exact xU H [4,3]<|fun H=>H
theorem anX {a b':Int} {p:ZD} (h:Is (YJ ⟨st,op,b⟩ a) (⟨st,op,b'⟩,p)) (hb:b'≠0):Is (T9 ⟨st,op,b⟩ a) ⟨st,op,b'⟩:=by grind [Is,T9]
theorem anY {a b' b'' k k':Int} {p:ZD} {st':xO} (h:Is (YJ ⟨st,op,b⟩ a) (⟨st,op,b'⟩,p)) (hk:k=Zc p) (hb:b'=0) (h2:Is (Y7 ⟨st,op,b'⟩ k) (⟨st',op,b''⟩,k')):Is (T9 ⟨st,op,b⟩ a) ⟨st',op,b''⟩:=by grind [Is,T9]
theorem way (H:Sat g w (Pt pc (yl m [vl,vs,vo,yh b]) 241::Sl 97 1 Yu vs st::Sl 246 5 Yf vo op::l)) (o a bb:Int) (tv:Value) (ha:0<=a/\a<=9223372036854775807) (hn:0<op.length) (hop:op.length<=100) (hst:st.length<=100000) (hok:Xj st op):xP 218 #[yg pc,.agg #[.int .u8 o,yh a,yh bb,tv]] w (fun r w'=>∃vs' st' b',Is (T9 ⟨st,op,b⟩ a) ⟨st',op,b'⟩/\Xj st' op/\st'.length<=st.length/\Sat g w' (Pt pc (yl m [vl,vs',vo,yh b']) 241::Sl 97 1 Yu vs' st'::Sl 246 5 Yf vo op::l)):=by
 refine Fc.of Tryz.func218 rfl k_d<|ZL H<|fun p1 w1 H=>Z9 rfl<|ye H 0 1 x9<|H.Z8 [3,3,3]<|fun H=>?_
 refine Z7.mk (Fc.imp (Valid.out H _ yp yp) ?_)
 rintro _ w2 ⟨XF,⟨p2,⟨rfl,⟨h1,H⟩⟩⟩⟩
 refine Z7.mk (Fc.imp (Valid.along _ _) ?_)
 rintro _ w3 ⟨⟨k1,⟨rfl,h2⟩⟩,H'⟩
 refine H.XW H' ?_
 clear H H'
 intro H
 refine Z9 rfl<|ye H 0 14 x9 ?_
 refine xR (fun c1=>?_) (fun c1=>?_)
 .refine Z7.mk (Fc.imp (Valid.pop H _ yp yp yp yp) ?_)
  rintro _ w4 ⟨k2,⟨Zt,⟨YX,⟨IQ,⟨rfl,⟨h3,⟨h4,⟨h5,H⟩⟩⟩⟩⟩⟩⟩⟩
  refine Z6.mk ?_
  refine ⟨Zt,YX,IQ,?_⟩
  constructor
  .exact anY h1 h2 yo yo
  refine ⟨yp,?_⟩
  refine ⟨yp,?_⟩
  exact H.drop 3<|fun H=>H
 refine Z6.mk ?_
 refine ⟨vs,st,XF,?_⟩
 constructor
 .exact anX h1 yo
 refine ⟨yp,?_⟩
 refine ⟨yp,?_⟩
 exact H.drop 3<|fun H=>H
theorem ahW {xs:xO} {i:Nat} (h:xs.length<=i):Is (Xc ⟨st,op,b⟩ (xs.drop i)) ⟨st,op,b⟩:=by
 rw [lxa h];rfl
theorem HC {xs:xO} {i:Nat} {x k b1 b2:Int} {s1 s2:xO} (hx:xs[i]?=some x) (h:Is (Xc ⟨st,op,b⟩ (xs.drop (i+1))) ⟨s1,op,b1⟩) (h2:Is (Y7 ⟨s1,op,b1⟩ x) (⟨s2,op,b2⟩,k)):Is (Xc ⟨st,op,b⟩ (xs.drop i)) ⟨s2,op,b2⟩:=by grind [Is,List.drop_eq_getElem_cons,Xc]
theorem VY (H:Sat g w (Pt pc (yl m [vl,vs,vo,yh b]) 241::Sl 97 1 Yu vs st::Sl 246 5 Yf vo op::l)) (v:Value) (xs:xO) (hx:Z0 g Yu U8 1 v xs) (hl:xs.length<=1000) (hn:0<op.length) (hop:op.length<=100) (hst:st.length<=100000) (hok:Xj st op):xP 222 #[yg pc,v] w (fun r w'=>∃vs' st' b',Is (Xc ⟨st,op,b⟩ xs) ⟨st',op,b'⟩/\Xj st' op/\st'.length<=st.length/\Sat g w' (Pt pc (yl m [vl,vs',vo,yh b']) 241::Sl 97 1 Yu vs' st'::Sl 246 5 Yf vo op::l)):=by
 refine Fc.of Tryz.func222 rfl k_d<|ZF hx rfl<|ZX yp ?_
 refine YV.rule (α:=Nat × xO × Int × Value) (xs.length,st,b,vs) (fun x_=>[(4,yh ((x_.1:Int)-1))]) (fun x_ w_=>(x_.1<=xs.length)/\(Is (Xc ⟨st,op,b⟩ (xs.drop x_.1)) ⟨x_.2.1,op,x_.2.2.1⟩)/\(Xj x_.2.1 op)/\(x_.2.1.length<=st.length)/\Sat g w_ ((Pt pc (yl m [vl,x_.2.2.2,vo,yh x_.2.2.1]) 241::Sl 97 1 Yu x_.2.2.2 x_.2.1::Sl 246 5 Yf vo op::l))) (fun x_=>x_.1) ?_ ?_ ?_
 .exact k_a
 .try simp only
  refine ⟨yp,?_⟩
  constructor
  .exact ahW (loa _)
  refine ⟨yo,?_⟩
  refine ⟨yp,?_⟩
  exact H
 rintro ⟨i,s1,b1,u1⟩ f_ w_ ⟨hi,ht,ho,hs,H⟩
 try simp only at hi ht ho hs H ⊢
 rcases lOb i with h0|h0
 .subst h0
  refine cF (Yy yp)<|Z6.mk ?_
  refine ⟨u1,s1,b1,?_⟩
  refine ⟨yo,?_⟩
  refine ⟨yo,?_⟩
  refine ⟨yo,?_⟩
  exact H
 .obtain ⟨j,rfl⟩:∃j,i=j+1:=⟨i-1,by omega⟩
  have e:((j+1:Nat):Int)-1=(j:Int):=by omega
  rw [e]
  obtain ⟨k,hk⟩:∃k,xs[j]?=some k:=⟨_,laa yp⟩
  refine cT (Yc yp)<|bk ?_
  obtain ⟨b2,o1,E1,F1,ZH⟩:=Z0.Y5 hx hk
  refine ZI E1 rfl rfl rfl<|xW (H.Yt F1) 0 xV ?_
  refine Z7.mk (Fc.imp (Valid.pop H _ yo yo yp yo) ?_)
  rintro _ w1 ⟨k1,⟨Zt,⟨YX,⟨XF,⟨rfl,⟨h1,⟨h2,⟨h3,H⟩⟩⟩⟩⟩⟩⟩⟩
  refine ZX yp ?_
  refine W0.mk ((j,YX,XF,Zt)) (ZO rfl (ZW)) ?_ ?_
  .refine ⟨yp,?_⟩
   constructor
   .exact HC hk ht yo
   refine ⟨yo,?_⟩
   constructor
   .grind
   exact H
  omega
end
end Go.Proofs.YtakpnepblgfknaaGreatDoor.Valid
namespace Go.Proofs.YtakpnepblgfknaaGreatDoor.Valid
open Go YY Go.RowKit
open YT Zl X6 YP
section
variable {g:Zz} {w:World} {l:List As} {pc:Nat} {m:Zj} {vl vs vo:Value} {st:xO} {op:List ZD} {b:Int}
def GI (st:xO) (op:List ZD) (b:Int) (xs:xO) (i:Nat) (s1:xO):Prop:=WH ⟨st,op,b⟩ xs=WH ⟨s1,op,b⟩ (xs.drop i)
theorem GI.zero {xs:xO}:GI st op b xs 0 st:=rfl
theorem GI.fin {xs:xO} {i:Nat} {s1:xO} (h:GI st op b xs i s1) (hi:xs.length<=i):Is (WH ⟨st,op,b⟩ xs) ⟨s1,op,b⟩:=by
 unfold GI at h;rw [lxa hi] at h;exact h.symm
theorem GI.step {xs:xO} {i:Nat} {s1 s2:xO} {x:Int} (h:GI st op b xs i s1) (hx:xs[i]?=some x) (hp:Is (W7 ⟨s1,op,b⟩ x) ⟨s2,op,b⟩):GI st op b xs (i+1) s2:=by grind [GI,Is,List.drop_eq_getElem_cons,WH]
theorem Td (H:Sat g w (Pt pc (yl m [vl,vs,vo,yh b]) 241::Sl 97 1 Yu vs st::Sl 246 5 Yf vo op::l)) (v:Value) (xs:xO) (hx:Z0 g Yu U8 1 v xs) (hl:xs.length<=1000) (hst:st.length<=90000):xP 223 #[yg pc,v] w (fun r w'=>∃vs' st',Is (WH ⟨st,op,b⟩ xs) ⟨st',op,b⟩/\st.length<=st'.length/\st'.length<=st.length+xs.length/\Sat g w' (Pt pc (yl m [vl,vs',vo,yh b]) 241::Sl 97 1 Yu vs' st'::Sl 246 5 Yf vo op::l)):=by
 refine Fc.of Tryz.func223 rfl k_d<|ZF hx rfl ?_
 refine YV.rule (α:=Nat × xO × Value) (0,st,vs) (fun x_=>[(8,yh x_.1)]) (fun x_ w_=>(x_.1<=xs.length)/\(GI st op b xs x_.1 x_.2.1)/\(st.length<=x_.2.1.length/\x_.2.1.length<=st.length+x_.1)/\Sat g w_ ((Pt pc (yl m [vl,x_.2.2,vo,yh b]) 241::Sl 97 1 Yu x_.2.2 x_.2.1::Sl 246 5 Yf vo op::l))) (fun x_=>xs.length-x_.1) ?_ ?_ ?_
 .exact k_a
 .try simp only
  refine ⟨yp,?_⟩
  constructor
  .exact GI.zero
  refine ⟨yp,?_⟩
  exact H
 rintro ⟨i,s1,u1⟩ f_ w_ ⟨hi,hg,hs,H⟩
 try simp only at hi hg hs H ⊢
 refine xT (fun c1=>?_) (fun c1=>?_)
 .refine bk ?_
  obtain ⟨x1,hx1⟩:∃x,(xs)[(i)]?=some x:=⟨_,laa yp⟩
  obtain ⟨b1,o1,E1,F1,ZH⟩:=Z0.Y5 hx hx1
  refine ZI E1 rfl rfl rfl<|xW (H.Yt F1) 0 xV ?_
  refine Z7.mk (Fc.imp (Valid.push H _ yp) ?_)
  rintro v' w1 ⟨Zt,⟨YX,⟨h1,⟨h2,⟨h3,H⟩⟩⟩⟩⟩
  refine ZX yp ?_
  refine W0.mk ((i+1,YX,Zt)) (Zr rfl yp (ZW)) ?_ ?_
  .refine ⟨yp,?_⟩
   constructor
   .exact GI.step hg hx1 yo
   constructor
   .grind
   exact H
  omega
 refine Z6.mk ?_
 refine ⟨u1,s1,?_⟩
 constructor
 .exact hg.fin yp
 refine ⟨yp,?_⟩
 refine ⟨yp,?_⟩
 exact H
theorem Ks {c c1 c2 c3 c4:Ck} {k1 k2 k3:Int} (h1:Is (Y7 c 127) (c1,k1)) (h2:Is (Y7 c1 0) (c2,k2)) (h3:Is (Y7 c2 k2) (c3,k3)) (h4:Is (W7 c3 k3) c4):Is (WX c) c4:=by grind [Is,WX]
theorem choose (H:Sat g w (Pt pc (yl m [vl,vs,vo,yh b]) 241::Sl 97 1 Yu vs st::Sl 246 5 Yf vo op::l)) (hn:0<op.length) (hop:op.length<=100) (hst:st.length<=100000) (hok:Xj st op):xP 193 #[yg pc] w (fun r w'=>∃vs' st' b',Is (WX ⟨st,op,b⟩) ⟨st',op,b'⟩/\Xj st' op/\st'.length<=st.length+1/\Sat g w' (Pt pc (yl m [vl,vs',vo,yh b']) 241::Sl 97 1 Yu vs' st'::Sl 246 5 Yf vo op::l)):=by
 refine Fc.of Tryz.func193 rfl k_d ?_
 refine Z7.mk (Fc.imp (Valid.pop H _ yp yp yp ?_) ?_)
 .exact k_j
 clear H
 rintro _ w1 ⟨k1,⟨Zt,⟨YX,⟨XF,⟨rfl,⟨h1,⟨h2,⟨h3,H⟩⟩⟩⟩⟩⟩⟩⟩
 refine Z7.mk (Fc.imp (Valid.pop H _ yp yp yp ?_) ?_)
 .exact k_j
 clear H
 rintro _ w2 ⟨k2,⟨Vz,⟨UK,⟨IQ,⟨rfl,⟨h4,⟨h5,⟨h6,H⟩⟩⟩⟩⟩⟩⟩⟩
 refine Z7.mk (Fc.imp (Valid.pop H _ yp yp yp ?_) ?_)
 .exact k_j
 clear H
 rintro _ w3 ⟨k3,⟨EB,⟨EA,⟨B8,⟨rfl,⟨h7,⟨h8,⟨h9,H⟩⟩⟩⟩⟩⟩⟩⟩
 refine Z7.mk (Fc.imp (Valid.push H _ yp) ?_)
 clear H
 rintro v' w4 ⟨anZ,⟨an0,⟨h10,⟨h11,⟨h12,H⟩⟩⟩⟩⟩
 refine Z6.mk ?_
 refine ⟨anZ,an0,B8,?_⟩
 constructor
 .exact Ks h1 yo yo yo
 constructor
 .exact k_j
 refine ⟨yp,?_⟩
 exact H
def TI (k:Int) (tt:xO) (c0:Ck) (i:Nat) (c1:Ck) (sm:Bool):Prop:=Xg k tt (c0,true)=Xg k (tt.drop i) (c1,sm)
theorem TI.zero {k:Int} {tt:xO} {c:Ck}:TI k tt c 0 c true:=rfl
theorem TI.step {k n k2:Int} {tt:xO} {c c1 c2:Ck} {i:Nat} {sm sm':Bool} {p:ZD} (h:TI k tt c i c1 sm) (hx:tt[i]?=some n) (ho:Is (YJ c1 n) (c2,p)) (hk:k2=Zc p) (hs:sm'=(decide (k2=k) && sm)):TI k tt c (i+1) c2 sm':=by grind [TI,Is,List.drop_eq_getElem_cons,Xg]
theorem TI.fin {k:Int} {tt:xO} {c c1:Ck} {i:Nat} {sm:Bool} (h:TI k tt c i c1 sm) (hi:tt.length<=i):Xg k tt (c,true)=(c1,sm):=by
 unfold TI at h;rw [lxa hi] at h;exact h
theorem aiV {c c0 c1:Ck} {a k:Int} {tt:xO} {p:ZD} {sm:Bool} (h:Is (YJ c a) (c0,p)) (hk:k=Zc p) (hw:Xg k tt (c0,true)=(c1,sm)) (hb:c1.bad≠0):Is (XC c a tt) c1:=by grind [Is,XC]
theorem aeQ {c c0 c1 c2 c3 c4:Ck} {a k k3 k4:Int} {tt:xO} {p:ZD} {sm:Bool} (h:Is (YJ c a) (c0,p)) (hk:k=Zc p) (hw:Xg k tt (c0,true)=(c1,sm)) (hb:c1.bad=0) (h2:c2=if sm=true then c1 else Yq c1 10) (h3:Is (Y7 c2 127) (c3,k3)) (h4:Is (Y7 c3 k) (c4,k4)):Is (XC c a tt) c4:=by grind [Is,XC]
theorem aiW {c c0 c1 c2 c3 c4:Ck} {a k k3 k4:Int} {tt:xO} {p:ZD} {sm:Bool} (h:Is (YJ c a) (c0,p)) (hk:k=Zc p) (hw:Xg k tt (c0,true)=(c1,sm)) (hb:c1.bad=0) (hs:sm=false) (h2:Is (Yq c1 10) c2) (h3:Is (Y7 c2 127) (c3,k3)) (h4:Is (Y7 c3 k) (c4,k4)):Is (XC c a tt) c4 :=
 aeQ h hk hw hb (by rw [if_neg (by grind)];exact h2) h3 h4
theorem table (H:Sat g w (Pt pc (yl m [vl,vs,vo,yh b]) 241::Sl 97 1 Yu vs st::Sl 246 5 Yf vo op::l)) (o a bb:Int) (tv:Value) (tt:xO) (ht:Z0 g ZJ WD 1 tv tt) (ha:0<=a/\a<=9223372036854775807) (hall:∀n∈tt,0<=n/\n<=9223372036854775807) (hn:0<op.length) (hop:op.length<=100) (hst:st.length<=100000) (hok:Xj st op):xP 221 #[yg pc,.agg #[.int .u8 o,yh a,yh bb,tv]] w (fun r w'=>∃vs' st' b',Is (XC ⟨st,op,b⟩ a tt) ⟨st',op,b'⟩/\Xj st' op/\st'.length<=st.length/\Sat g w' (Pt pc (yl m [vl,vs',vo,yh b']) 241::Sl 97 1 Yu vs' st'::Sl 246 5 Yf vo op::l)):=by
 refine Fc.of Tryz.func221 rfl k_d ?_
 have hlt:=VF.len ht
 refine ZL H<|fun p1 w1 H=>Z9 rfl<|ye H 0 1 x9<|H.Z8 [3,3,3]<|fun H=>?_
 refine Z7.mk (Fc.imp (Valid.out H _ yp yp) ?_)
 rintro _ w2 ⟨XF,⟨p2,⟨rfl,⟨h1,H⟩⟩⟩⟩
 refine Z7.mk (Fc.imp (Valid.along _ _) ?_)
 rintro _ w3 ⟨⟨k1,⟨rfl,h2⟩⟩,H'⟩
 refine H.XW H' ?_
 clear H H'
 intro H
 refine Z9 rfl<|ye H 3 3 x9<|ZF ht rfl ?_
 refine YV.rule (α:=Nat × Int × Bool) (0,XF,true) (fun x_=>[(16,yh x_.1),(5,.bool x_.2.2)]) (fun x_ w_=>(x_.1<=tt.length)/\(TI k1 tt ⟨st,op,XF⟩ x_.1 ⟨st,op,x_.2.1⟩ x_.2.2)/\Sat g w_ ((Pt pc (yl m [vl,vs,vo,yh x_.2.1]) 241::Sl 97 1 Yu vs st::Sl 246 5 Yf vo op::Pt p1 [.int .u8 o,yh a,yh bb,tv] 196::l))) (fun x_=>tt.length-x_.1) ?_ ?_ ?_
 .exact k_a
 .try simp only
  refine ⟨yp,?_⟩
  constructor
  .exact TI.zero
  exact H
 rintro ⟨i,b1,sm⟩ f_ w_ ⟨hi,hT,H⟩
 try simp only at hi hT H ⊢
 rcases lAa i tt.length with Kr|hge
 .obtain ⟨n,hn2⟩:∃n,tt[i]?=some n:=⟨_,laa Kr⟩
  have hnb:=hall n (lda hn2)
  refine cT (Y9 yp)<|bk ?_
  obtain ⟨b2,o1,E1,F1,ZH⟩:=Z0.Y5 ht hn2
  refine ZI E1 rfl rfl rfl<|xW (H.Yt F1) 0 xV ?_
  refine Z7.mk (Fc.imp (Valid.out H _ yp yp) ?_)
  rintro _ w4 ⟨IQ,⟨p3,⟨rfl,⟨h3,H⟩⟩⟩⟩
  refine Z7.mk (Fc.imp (Valid.along _ _) ?_)
  rintro _ w5 ⟨⟨k2,⟨rfl,h4⟩⟩,H'⟩
  refine H.XW H' ?_
  clear H H'
  intro H
  refine br (fun c1=>?_) (fun c1=>?_)
  .replace c1:=ZR (c1)
   refine ZX yp ?_
   refine W0.mk ((i+1,IQ,sm)) (Zr rfl yp (ZO rfl (ZW))) ?_ ?_
   .refine ⟨yp,?_⟩
    constructor
    .exact TI.step hT hn2 h3 h4 (by grind)
    exact H
   omega
  replace c1:=ZQ (c1)
  refine ZX yp ?_
  refine W0.mk ((i+1,IQ,false)) (Zr rfl yp (ZO rfl (ZW))) ?_ ?_
  .refine ⟨yp,?_⟩
   constructor
   .exact TI.step hT hn2 h3 h4 (by grind)
   exact H
  omega
 .have EY:=hT.fin hge
  refine cF (Zs yp)<|Z9 rfl<|ye H 0 14 x9 ?_
  refine xQ (fun c1=>?_) (fun c1=>?_)
  .refine Z6.mk ?_
   refine ⟨vs,st,b1,?_⟩
   constructor
   .exact aiV h1 h2 EY c1
   refine ⟨yp,?_⟩
   refine ⟨yp,?_⟩
   exact H.drop 3<|fun H=>H
  refine cI (fun c2=>?_) (fun c2=>?_)
  .replace c2:=Sw (c2)
   refine Z7.mk (Fc.imp (Valid.fail H _) ?_)
   rintro v' w4 ⟨IQ,⟨h3,H⟩⟩
   refine Z7.mk (Fc.imp (Valid.pop H _ yp yp yp yp) ?_)
   rintro _ w5 ⟨k2,⟨Zt,⟨YX,⟨B8,⟨rfl,⟨h4,⟨h5,⟨h6,H⟩⟩⟩⟩⟩⟩⟩⟩
   refine Z7.mk (Fc.imp (Valid.pop H _ yp yp yp yp) ?_)
   rintro _ w6 ⟨k3,⟨Vz,⟨UK,⟨b'4,⟨rfl,⟨h7,⟨h8,⟨h9,H⟩⟩⟩⟩⟩⟩⟩⟩
   refine Z6.mk ?_
   refine ⟨Vz,UK,b'4,?_⟩
   constructor
   .exact aiW h1 h2 EY yo yo yo yo yo
   refine ⟨yp,?_⟩
   refine ⟨yp,?_⟩
   exact H.drop 3<|fun H=>H
  replace c2:=Sv (c2)
  refine Z7.mk (Fc.imp (Valid.pop H _ yp yp yp yp) ?_)
  rintro _ w4 ⟨k2,⟨Zt,⟨YX,⟨IQ,⟨rfl,⟨h3,⟨h4,⟨h5,H⟩⟩⟩⟩⟩⟩⟩⟩
  refine Z7.mk (Fc.imp (Valid.pop H _ yp yp yp yp) ?_)
  rintro _ w5 ⟨k3,⟨Vz,⟨UK,⟨B8,⟨rfl,⟨h6,⟨h7,⟨h8,H⟩⟩⟩⟩⟩⟩⟩⟩
  refine Z6.mk ?_
  refine ⟨Vz,UK,B8,?_⟩
  constructor
  .exact aeQ h1 h2 EY yo (if_pos yo).symm yo yo
  refine ⟨yp,?_⟩
  refine ⟨yp,?_⟩
  exact H.drop 3<|fun H=>H
end
end Go.Proofs.YtakpnepblgfknaaGreatDoor.Valid
namespace Go.Proofs.YtakpnepblgfknaaGreatDoor.Valid
open Go YY Go.RowKit
open YT Zl X6 YP
section
variable {g:Zz} {w:World} {l:List As} {pc:Nat} {m:Zj} {vl vs vo:Value} {st:xO} {op:List ZD} {b:Int}
theorem c0 {c c':Ck} {a bb:Int} {tt:xO} (h:Is (Uw c) c'):Is (Zy c ⟨0,a,bb,tt⟩) c':=by grind [Zy]
theorem c2 {c c':Ck} {a bb:Int} {tt:xO} (h:Is (VM c 2 a) c'):Is (Zy c ⟨2,a,bb,tt⟩) c':=by grind [Zy]
theorem c3 {c c':Ck} {a bb:Int} {tt:xO} (h:Is (VM c 3 a) c'):Is (Zy c ⟨3,a,bb,tt⟩) c':=by grind [Zy]
theorem c4 {c c1 c':Ck} {k a bb:Int} {tt:xO} (h1:Is (Y7 c 127) (c1,k)) (h:Is (VM c1 4 a) c'):Is (Zy c ⟨4,a,bb,tt⟩) c':=by grind [Zy,Is]
theorem c12 {c c1 c':Ck} {a bb:Int} {tt:xO} (h1:Is (T9 c a) c1) (h:Is (Uw c1) c'):Is (Zy c ⟨12,a,bb,tt⟩) c':=by grind [Zy,Is]
theorem c13 {c c':Ck} {a bb:Int} {tt:xO} (h:Is (VL c a) c'):Is (Zy c ⟨13,a,bb,tt⟩) c':=by grind [Zy]
theorem c15 {c c1 c':Ck} {k a bb:Int} {tt:xO} {q:ZD} (hq:c.Zk[0]?=some q) (h1:Is (Y7 c q.kind) (c1,k)) (h:Is (Uw c1) c'):Is (Zy c ⟨15,a,bb,tt⟩) c':=by grind [Zy,Is]
theorem c14 {c c1 c':Ck} {a bb:Int} {tt:xO} (h1:Is (XC c a tt) c1) (h:Is (Uw c1) c'):Is (Zy c ⟨14,a,bb,tt⟩) c':=by grind [Zy,Is]
theorem ak0 {c c1:Ck} {a:Int} {p:ZD} (h:Is (YJ c a) (c1,p)) (hb:c1.bad≠0):Is (VL c a) c1:=by grind [Is,VL]
theorem ak1 {c c1 c2 c3 c4:Ck} {a k k2 k3:Int} {p:ZD} (h:Is (YJ c a) (c1,p)) (hk:k=Zc p) (hb:c1.bad=0) (h2:Is (Y7 c1 127) (c2,k2)) (h3:Is (Y7 c2 k) (c3,k3)) (h4:Is (W7 c3 k) c4):Is (VL c a) c4:=by grind [Is,VL]
theorem C8 {a:Int} (h:a=64\/a=127\/a=126):ZM .u8 a=a:=by
 rcases h with rfl|rfl|rfl <;> (unfold ZM;rfl)
theorem an1 (H:Sat g w (Pt pc (yl m [vl,vs,vo,yh b]) 241::Sl 97 1 Yu vs st::Sl 246 5 Yf vo op::l)) (a bb:Int) (tv:Value) (tt:xO) (ht:Z0 g ZJ WD 1 tv tt) (hn:0<op.length) (hop:op.length<=99) (hst:st.length<=90000) (hok:Xj st op):xP 190 #[yg pc,.agg #[.int .u8 0,yh a,yh bb,tv]] w (fun r w'=>∃vs' SI st' op' b',Is (Zy ⟨st,op,b⟩ ⟨0,a,bb,tt⟩) ⟨st',op',b'⟩/\Xj st' op'/\st'.length<=st.length+1/\Sat g w' (Pt pc (yl m [vl,vs',SI,yh b']) 241::Sl 97 1 Yu vs' st'::Sl 246 5 Yf SI op'::l)):=by
 obtain ⟨p,hp⟩:∃p,op[op.length-1]?=some p:=⟨_,laa yp⟩
 refine Fc.of Tryz.func190 rfl k_d<|ZL H<|fun p1 w1 H=>Z9 rfl<|ye H 0 0 x9<|bk<|cT (ZK yp)<|H.Z8 [3,3,3]<|fun H=>?_
 refine Z7.mk (Fc.imp (Valid.die H yp yp yp yp) ?_)
 rintro v' w2 ⟨Zt,⟨YX,⟨Xz,⟨h1,⟨h2,⟨h3,⟨h4,H⟩⟩⟩⟩⟩⟩⟩
 refine Z6.mk ?_
 refine ⟨Zt,vo,YX,Xz,b,?_⟩
 constructor
 .exact c0 yo
 refine ⟨yp,?_⟩
 refine ⟨yp,?_⟩
 exact H.drop 3<|fun H=>H
theorem an2 (H:Sat g w (Pt pc (yl m [vl,vs,vo,yh b]) 241::Sl 97 1 Yu vs st::Sl 246 5 Yf vo op::l)) (a bb:Int) (tv:Value) (tt:xO) (ht:Z0 g ZJ WD 1 tv tt) (LU:a=64\/a=127\/a=126) (hn:0<op.length) (hop:op.length<=99) (hst:st.length<=90000) (hok:Xj st op):xP 190 #[yg pc,.agg #[.int .u8 2,yh a,yh bb,tv]] w (fun r w'=>∃vs' SI st' op' b',Is (Zy ⟨st,op,b⟩ ⟨2,a,bb,tt⟩) ⟨st',op',b'⟩/\Xj st' op'/\st'.length<=st.length+1/\Sat g w' (Pt pc (yl m [vl,vs',SI,yh b']) 241::Sl 97 1 Yu vs' st'::Sl 246 5 Yf SI op'::l)):=by
 obtain ⟨p,hp⟩:∃p,op[op.length-1]?=some p:=⟨_,laa yp⟩
 refine Fc.of Tryz.func190 rfl k_d ?_
 have Fp:=C8 LU
 refine ZL H<|fun p1 w1 H=>Z9 rfl<|ye H 0 0 x9<|bk<|cF (Z5 yp)<|cT (ZK yp)<|cT (ZK yp)<|Z9 rfl<|ye H 0 0 x9<|Z9 rfl<|ye H 0 1 x9<|T3 yp rfl rfl<|H.Z8 [3,3,3]<|fun H=>?_
 refine Z7.mk (Fc.imp (Valid.WZ H _ _ yp yp yp) ?_)
 rintro v' w2 ⟨WY,⟨Xz,⟨h1,⟨h2,⟨h3,H⟩⟩⟩⟩⟩
 refine Z6.mk ?_
 refine ⟨vs,WY,st,Xz,b,?_⟩
 constructor
 .exact c2 yo
 refine ⟨yp,?_⟩
 refine ⟨yp,?_⟩
 exact H.drop 3<|fun H=>H
theorem an3 (H:Sat g w (Pt pc (yl m [vl,vs,vo,yh b]) 241::Sl 97 1 Yu vs st::Sl 246 5 Yf vo op::l)) (a bb:Int) (tv:Value) (tt:xO) (ht:Z0 g ZJ WD 1 tv tt) (LU:a=64\/a=127\/a=126) (hn:0<op.length) (hop:op.length<=99) (hst:st.length<=90000) (hok:Xj st op):xP 190 #[yg pc,.agg #[.int .u8 3,yh a,yh bb,tv]] w (fun r w'=>∃vs' SI st' op' b',Is (Zy ⟨st,op,b⟩ ⟨3,a,bb,tt⟩) ⟨st',op',b'⟩/\Xj st' op'/\st'.length<=st.length+1/\Sat g w' (Pt pc (yl m [vl,vs',SI,yh b']) 241::Sl 97 1 Yu vs' st'::Sl 246 5 Yf SI op'::l)):=by
 obtain ⟨p,hp⟩:∃p,op[op.length-1]?=some p:=⟨_,laa yp⟩
 refine Fc.of Tryz.func190 rfl k_d ?_
 have Fp:=C8 LU
 refine ZL H<|fun p1 w1 H=>Z9 rfl<|ye H 0 0 x9<|bk<|cF (Z5 yp)<|cF (Z5 yp)<|cT (ZK yp)<|Z9 rfl<|ye H 0 0 x9<|Z9 rfl<|ye H 0 1 x9<|T3 yp rfl rfl<|H.Z8 [3,3,3]<|fun H=>?_
 refine Z7.mk (Fc.imp (Valid.WZ H _ _ yp yp yp) ?_)
 rintro v' w2 ⟨WY,⟨Xz,⟨h1,⟨h2,⟨h3,H⟩⟩⟩⟩⟩
 refine Z6.mk ?_
 refine ⟨vs,WY,st,Xz,b,?_⟩
 constructor
 .exact c3 yo
 refine ⟨yp,?_⟩
 refine ⟨yp,?_⟩
 exact H.drop 3<|fun H=>H
theorem an4 (H:Sat g w (Pt pc (yl m [vl,vs,vo,yh b]) 241::Sl 97 1 Yu vs st::Sl 246 5 Yf vo op::l)) (a bb:Int) (tv:Value) (tt:xO) (ht:Z0 g ZJ WD 1 tv tt) (LU:a=64\/a=127\/a=126) (hn:0<op.length) (hop:op.length<=99) (hst:st.length<=90000) (hok:Xj st op):xP 190 #[yg pc,.agg #[.int .u8 4,yh a,yh bb,tv]] w (fun r w'=>∃vs' SI st' op' b',Is (Zy ⟨st,op,b⟩ ⟨4,a,bb,tt⟩) ⟨st',op',b'⟩/\Xj st' op'/\st'.length<=st.length+1/\Sat g w' (Pt pc (yl m [vl,vs',SI,yh b']) 241::Sl 97 1 Yu vs' st'::Sl 246 5 Yf SI op'::l)):=by
 obtain ⟨p,hp⟩:∃p,op[op.length-1]?=some p:=⟨_,laa yp⟩
 refine Fc.of Tryz.func190 rfl k_d ?_
 have Fp:=C8 LU
 refine ZL H<|fun p1 w1 H=>Z9 rfl<|ye H 0 0 x9<|bk<|cF (Z5 yp)<|cF (Z5 yp)<|cF (Z5 yp)<|cT (ZK yp)<|H.Z8 [3,3,3]<|fun H=>?_
 refine Z7.mk (Fc.imp (Valid.pop H _ yp yp yp yp) ?_)
 rintro _ w2 ⟨k1,⟨Zt,⟨YX,⟨XF,⟨rfl,⟨h1,⟨h2,⟨h3,H⟩⟩⟩⟩⟩⟩⟩⟩
 refine Z9 rfl<|ye H 3 0 x9<|Z9 rfl<|ye H 3 1 x9<|T3 yp rfl rfl ?_
 refine Z7.mk (Fc.imp (Valid.WZ H _ _ yp yp yp) ?_)
 rintro v' w3 ⟨WY,⟨Xz,⟨h4,⟨h5,⟨h6,H⟩⟩⟩⟩⟩
 refine Z6.mk ?_
 refine ⟨Zt,WY,YX,Xz,XF,?_⟩
 constructor
 .exact c4 yo yo
 refine ⟨yp,?_⟩
 refine ⟨yp,?_⟩
 exact H.drop 3<|fun H=>H
theorem ak2 (H:Sat g w (Pt pc (yl m [vl,vs,vo,yh b]) 241::Sl 97 1 Yu vs st::Sl 246 5 Yf vo op::l)) (a bb:Int) (tv:Value) (tt:xO) (ht:Z0 g ZJ WD 1 tv tt) (ha:0<=a/\a<=9223372036854775807) (hn:0<op.length) (hop:op.length<=99) (hst:st.length<=90000) (hok:Xj st op):xP 190 #[yg pc,.agg #[.int .u8 12,yh a,yh bb,tv]] w (fun r w'=>∃vs' SI st' op' b',Is (Zy ⟨st,op,b⟩ ⟨12,a,bb,tt⟩) ⟨st',op',b'⟩/\Xj st' op'/\st'.length<=st.length+1/\Sat g w' (Pt pc (yl m [vl,vs',SI,yh b']) 241::Sl 97 1 Yu vs' st'::Sl 246 5 Yf SI op'::l)):=by
 obtain ⟨p,hp⟩:∃p,op[op.length-1]?=some p:=⟨_,laa yp⟩
 refine Fc.of Tryz.func190 rfl k_d<|ZL H<|fun p1 w1 H=>Z9 rfl<|ye H 0 0 x9<|bk<|cF (Z5 yp)<|cF (Z5 yp)<|cF (Z5 yp)<|cF (Z5 yp)<|cF (Z5 yp)<|cF (Z5 yp)<|cT (ZK yp)<|ZC (H.at 0 rfl) 0 rfl rfl rfl<|H.Z8 [3,3,3]<|fun H=>?_
 refine Z7.mk (Fc.imp (Valid.way H _ _ _ _ yp yp yp yp yp) ?_)
 rintro v' w2 ⟨Zt,⟨YX,⟨XF,⟨h1,⟨h2,⟨h3,H⟩⟩⟩⟩⟩⟩
 refine Z7.mk (Fc.imp (Valid.die H yp yp yp yp) ?_)
 rintro Wu w3 ⟨Vz,⟨UK,⟨Xz,⟨h4,⟨h5,⟨h6,⟨h7,H⟩⟩⟩⟩⟩⟩⟩
 refine Z6.mk ?_
 refine ⟨Vz,vo,UK,Xz,XF,?_⟩
 constructor
 .exact c12 yo yo
 refine ⟨yp,?_⟩
 refine ⟨yp,?_⟩
 exact H.drop 3<|fun H=>H
theorem ak3 (H:Sat g w (Pt pc (yl m [vl,vs,vo,yh b]) 241::Sl 97 1 Yu vs st::Sl 246 5 Yf vo op::l)) (a bb:Int) (tv:Value) (tt:xO) (ht:Z0 g ZJ WD 1 tv tt) (ha:0<=a/\a<=9223372036854775807) (hn:0<op.length) (hop:op.length<=99) (hst:st.length<=90000) (hok:Xj st op):xP 190 #[yg pc,.agg #[.int .u8 13,yh a,yh bb,tv]] w (fun r w'=>∃vs' SI st' op' b',Is (Zy ⟨st,op,b⟩ ⟨13,a,bb,tt⟩) ⟨st',op',b'⟩/\Xj st' op'/\st'.length<=st.length+1/\Sat g w' (Pt pc (yl m [vl,vs',SI,yh b']) 241::Sl 97 1 Yu vs' st'::Sl 246 5 Yf SI op'::l)):=by
 obtain ⟨p,hp⟩:∃p,op[op.length-1]?=some p:=⟨_,laa yp⟩
 refine Fc.of Tryz.func190 rfl k_d<|ZL H<|fun p1 w1 H=>Z9 rfl<|ye H 0 0 x9<|bk<|cF (Z5 yp)<|cF (Z5 yp)<|cF (Z5 yp)<|cF (Z5 yp)<|cF (Z5 yp)<|cF (Z5 yp)<|cF (Z5 yp)<|cT (ZK yp)<|Z9 rfl<|ye H 0 1 x9<|H.Z8 [3,3,3]<|fun H=>?_
 refine Z7.mk (Fc.imp (Valid.out H _ yp yp) ?_)
 rintro _ w2 ⟨XF,⟨p2,⟨rfl,⟨h1,H⟩⟩⟩⟩
 refine Z7.mk (Fc.imp (Valid.along _ _) ?_)
 rintro _ w3 ⟨⟨k1,⟨rfl,h2⟩⟩,H'⟩
 refine H.XW H' ?_
 clear H H'
 intro H
 refine Z9 rfl<|ye H 0 14 x9 ?_
 refine xR (fun c1=>?_) (fun c1=>?_)
 .refine Z7.mk (Fc.imp (Valid.pop H _ yp yp yp ?_) ?_)
  .exact k_j
  rintro _ w4 ⟨k2,⟨Zt,⟨YX,⟨IQ,⟨rfl,⟨h3,⟨h4,⟨h5,H⟩⟩⟩⟩⟩⟩⟩⟩
  refine Z7.mk (Fc.imp (Valid.pop H _ yp yp yp ?_) ?_)
  .exact k_j
  rintro _ w5 ⟨k3,⟨Vz,⟨UK,⟨B8,⟨rfl,⟨h6,⟨h7,⟨h8,H⟩⟩⟩⟩⟩⟩⟩⟩
  refine Z7.mk (Fc.imp (Valid.push H _ yp) ?_)
  rintro v' w6 ⟨EB,⟨EA,⟨h9,⟨h10,⟨h11,H⟩⟩⟩⟩⟩
  refine Z6.mk ?_
  refine ⟨EB,vo,EA,op,B8,?_⟩
  constructor
  .exact c13 (ak1 h1 h2 yo yo yo yo)
  constructor
  .exact k_j
  refine ⟨yp,?_⟩
  exact H.drop 3<|fun H=>H
 refine Z6.mk ?_
 refine ⟨vs,vo,st,op,XF,?_⟩
 constructor
 .exact c13 (ak0 h1 yo)
 constructor
 .exact k_j
 refine ⟨yp,?_⟩
 exact H.drop 3<|fun H=>H
theorem ak4 (H:Sat g w (Pt pc (yl m [vl,vs,vo,yh b]) 241::Sl 97 1 Yu vs st::Sl 246 5 Yf vo op::l)) (a bb:Int) (tv:Value) (tt:xO) (ht:Z0 g ZJ WD 1 tv tt) (hn:0<op.length) (hop:op.length<=99) (hst:st.length<=90000) (hok:Xj st op):xP 190 #[yg pc,.agg #[.int .u8 15,yh a,yh bb,tv]] w (fun r w'=>∃vs' SI st' op' b',Is (Zy ⟨st,op,b⟩ ⟨15,a,bb,tt⟩) ⟨st',op',b'⟩/\Xj st' op'/\st'.length<=st.length+1/\Sat g w' (Pt pc (yl m [vl,vs',SI,yh b']) 241::Sl 97 1 Yu vs' st'::Sl 246 5 Yf SI op'::l)):=by
 obtain ⟨p,hp⟩:∃p,op[op.length-1]?=some p:=⟨_,laa yp⟩
 refine Fc.of Tryz.func190 rfl k_d ?_
 obtain ⟨q,hq⟩:∃q,op[0]?=some q:=⟨_,laa hn⟩
 refine ZL H<|fun p1 w1 H=>Z9 rfl<|ye H 0 0 x9<|bk<|cF (Z5 yp)<|cF (Z5 yp)<|cF (Z5 yp)<|cF (Z5 yp)<|cF (Z5 yp)<|cF (Z5 yp)<|cF (Z5 yp)<|cF (Z5 yp)<|cT (ZK yp)<|Z9 rfl<|ye H 1 13 x9 ?_
 obtain ⟨b1,o1,E1⟩:=H.Y5 3 rfl 0 yp
 refine ZI E1 rfl rfl rfl<|Z9 rfl<|xW (H.el 3 rfl E1 hq) 1 xV<|H.Z8 [3,3,3]<|fun H=>?_
 refine Z7.mk (Fc.imp (Valid.pop H _ yp yp yp yp) ?_)
 rintro _ w2 ⟨k1,⟨Zt,⟨YX,⟨XF,⟨rfl,⟨h1,⟨h2,⟨h3,H⟩⟩⟩⟩⟩⟩⟩⟩
 refine Z7.mk (Fc.imp (Valid.die H yp yp yp yp) ?_)
 rintro v' w3 ⟨Vz,⟨UK,⟨Xz,⟨h4,⟨h5,⟨h6,⟨h7,H⟩⟩⟩⟩⟩⟩⟩
 refine Z6.mk ?_
 refine ⟨Vz,vo,UK,Xz,XF,?_⟩
 constructor
 .exact c15 hq yo yo
 refine ⟨yp,?_⟩
 refine ⟨yp,?_⟩
 exact H.drop 3<|fun H=>H
theorem ak5 (H:Sat g w (Pt pc (yl m [vl,vs,vo,yh b]) 241::Sl 97 1 Yu vs st::Sl 246 5 Yf vo op::l)) (a bb:Int) (tv:Value) (tt:xO) (ht:Z0 g ZJ WD 1 tv tt) (ha:0<=a/\a<=9223372036854775807) (hall:∀n∈tt,0<=n/\n<=9223372036854775807) (hn:0<op.length) (hop:op.length<=99) (hst:st.length<=90000) (hok:Xj st op):xP 190 #[yg pc,.agg #[.int .u8 14,yh a,yh bb,tv]] w (fun r w'=>∃vs' SI st' op' b',Is (Zy ⟨st,op,b⟩ ⟨14,a,bb,tt⟩) ⟨st',op',b'⟩/\Xj st' op'/\st'.length<=st.length+1/\Sat g w' (Pt pc (yl m [vl,vs',SI,yh b']) 241::Sl 97 1 Yu vs' st'::Sl 246 5 Yf SI op'::l)):=by
 obtain ⟨p,hp⟩:∃p,op[op.length-1]?=some p:=⟨_,laa yp⟩
 refine Fc.of Tryz.func190 rfl k_d<|ZL H<|fun p1 w1 H=>Z9 rfl<|ye H 0 0 x9<|bk<|cF (Z5 yp)<|cF (Z5 yp)<|cF (Z5 yp)<|cF (Z5 yp)<|cF (Z5 yp)<|cF (Z5 yp)<|cF (Z5 yp)<|cF (Z5 yp)<|cF (Z5 yp)<|cT (ZK yp)<|ZC (H.at 0 rfl) 0 rfl rfl rfl<|H.Z8 [3,3,3]<|fun H=>?_
 refine Z7.mk (Fc.imp (Valid.table H _ _ _ _ _ ht yp yp yp yp yp yp) ?_)
 rintro v' w2 ⟨Zt,⟨YX,⟨XF,⟨h1,⟨h2,⟨h3,H⟩⟩⟩⟩⟩⟩
 refine Z7.mk (Fc.imp (Valid.die H yp yp yp yp) ?_)
 rintro Wu w3 ⟨Vz,⟨UK,⟨Xz,⟨h4,⟨h5,⟨h6,⟨h7,H⟩⟩⟩⟩⟩⟩⟩
 refine Z6.mk ?_
 refine ⟨Vz,vo,UK,Xz,XF,?_⟩
 constructor
 .exact c14 yo yo
 refine ⟨yp,?_⟩
 refine ⟨yp,?_⟩
 exact H.drop 3<|fun H=>H
end
end Go.Proofs.YtakpnepblgfknaaGreatDoor.Valid
namespace Go.Proofs.YtakpnepblgfknaaGreatDoor.Valid
open Go YY Go.RowKit
open YT Zl X6 YP
section
variable {g:Zz} {w:World} {l:List As} {pc:Nat} {m:Zj} {vl vs vo:Value} {st:xO} {op:List ZD} {b:Int}
theorem c5 {c c':Ck} {a bb:Int} {tt:xO} (h:Is (U6 c) c'):Is (Zy c ⟨5,a,bb,tt⟩) c':=by grind [Zy]
theorem c11 {c c':Ck} {a bb:Int} {tt:xO} (h:Is (SQ c) c'):Is (Zy c ⟨11,a,bb,tt⟩) c':=by grind [Zy]
theorem ak6 {c c1:Ck} (h:Is (YL c) c1) (hb:c1.bad≠0):Is (U6 c) c1:=by grind [Is,U6]
theorem ak7 {b':Int} {st':xO} {p:ZD} (hp:op[op.length-1]?=some p) (h:Is (YL ⟨st,op,b⟩) ⟨st',op,b'⟩) (hb:b'=0):Is (U6 ⟨st,op,b⟩) ⟨st',op.take (op.length-1)++[⟨5,p.kind,p.base,false,p.under⟩],b'⟩:=by grind [Is,U6,VU]
theorem an5 (H:Sat g w (Pt pc (yl m [vl,vs,vo,yh b]) 241::Sl 97 1 Yu vs st::Sl 246 5 Yf vo op::l)) (a bb:Int) (tv:Value) (tt:xO) (ht:Z0 g ZJ WD 1 tv tt) (hn:0<op.length) (hop:op.length<=99) (hst:st.length<=90000) (hok:Xj st op):xP 190 #[yg pc,.agg #[.int .u8 5,yh a,yh bb,tv]] w (fun r w'=>∃vs' SI st' op' b',Is (Zy ⟨st,op,b⟩ ⟨5,a,bb,tt⟩) ⟨st',op',b'⟩/\Xj st' op'/\st'.length<=st.length+1/\Sat g w' (Pt pc (yl m [vl,vs',SI,yh b']) 241::Sl 97 1 Yu vs' st'::Sl 246 5 Yf SI op'::l)):=by
 obtain ⟨p,hp⟩:∃p,op[op.length-1]?=some p:=⟨_,laa yp⟩
 refine Fc.of Tryz.func190 rfl k_d<|ZL H<|fun p1 w1 H=>Z9 rfl<|ye H 0 0 x9<|bk<|cF (Z5 yp)<|cF (Z5 yp)<|cF (Z5 yp)<|cF (Z5 yp)<|cT (ZK yp)<|H.Z8 [3,3,3]<|fun H=>?_
 refine Z7.mk (Fc.imp (Valid.close H _ hp yp yp yp yp) ?_)
 rintro _ w2 ⟨Zt,⟨YX,⟨XF,⟨rfl,⟨h1,⟨h2,⟨h3,H⟩⟩⟩⟩⟩⟩⟩
 refine ZV H rfl<|fun p2 w3 H=>ZG H 0 rfl rfl rfl rfl<|fun w2 H=>Z9 rfl<|ye H 1 14 x9 ?_
 refine xR (fun c1=>?_) (fun c1=>?_)
 rotate_left
 .refine Z6.mk ?_
  refine ⟨Zt,vo,YX,op,XF,?_⟩
  constructor
  .exact c5 (ak6 h1 yo)
  refine ⟨yp,?_⟩
  refine ⟨yp,?_⟩
  exact H.Z8 [3,3,3]<|fun H=>xU H [4,3]<|fun H=>H
 refine ZN H [] [yfp0,yfp1,yfp2,yfp3,yfh4,yfp5,yfp6,yfp7,yfh8,yfp9,yfp10,yfp11,yfp12,yfp13,yffr14] mixed k_d k_d<|fun w3 H=>yc rfl rfl<|yd 1 13 x9 rfl<|yc rfl rfl<|yd 1 13 x9 rfl ?_
 obtain ⟨a1,c2,V1⟩:=H.form 3 rfl
 refine tk (fun _ Z=>XQ V1 rfl yj)<|ZX yp ?_
 obtain ⟨v1,V2⟩:=H.vw 3 rfl (0) (((op.length)-1)) yp yp
 refine tk (fun _ Z=>Wp V2 rfl rfl (.inl yj) (.inr ⟨_,by first|rfl|(congr 2;omega)⟩) yj)<|yc rfl rfl<|Yo H 1 rfl rfl rfl k_y<|fun w2 H=>?_
 replace H:=H.KF 3 rfl V2
 simp only [List.set_cons_succ,List.set_cons_zero] at H
 have hto:(op.take (op.length-1)).length=op.length-1:=by simp
 have DK:=aeP (p':=⟨5,p.kind,p.base,false,p.under⟩) hp
 refine ZN H [] [yfp0,yfp1,yfp2,yfp3,yfh4,yfp5,yfh6,yfp7,yfh8,yfp9,yfh10,yfp11,yfh12,yfp13,yff14,yffr15,yfp16,yfp17,yffr18] mixed k_d k_d<|fun w3 H=>yc rfl rfl<|yd 1 13 x9 rfl<|yc rfl rfl<|yd 4 0 x9 rfl<|yc rfl rfl<|yd 0 1 x9 rfl<|yc rfl rfl<|yd 0 2 x9 rfl<|yc rfl rfl<|yd 0 4 x9 rfl<|tk (fun _ Z=>Zn rfl rfl rfl yj)<|ZZ H rfl rfl rfl rfl<|fun p3 w2 H=>Y2.mk (H.drop 0 (fun H=>H))<|WO (ys:=[⟨_,_,_,_,_⟩]) 24 H 4 rfl (H.at 0 rfl) rfl (fun y _=>rfl) rfl rfl rfl yp yp<|fun v2 w3 H=>yc rfl rfl<|Yo H 2 rfl rfl rfl (H.one 4 rfl)<|fun w2 H=>Z6.mk ?_
 refine ⟨Zt,v2,YX,List.take (op.length-1) op++[{ op:=5,kind:=p.2,base:=p.3,dead:=false,under:=p.5 }],XF,?_⟩
 constructor
 .exact c5 (ak7 hp h1 yo)
 constructor
 .exact DK ▸ h2.same hp rfl
 refine ⟨yp,?_⟩
 exact H.Z8 [4,4,4]<|fun H=>xU H [5,4,3]<|fun H=>H
theorem acN {b':Int} (h:Is (Yq ⟨st,op,b⟩ 10) ⟨st,op,b'⟩):b'≠0:=by
 unfold Is Yq at h
 split at h
 .grind
 .grind
theorem an6 {b' b'':Int} {st':xO} {p:ZD} (hp:op[op.length-1]?=some p) (h:Is (YL ⟨st,op,b⟩) ⟨st',op,b'⟩) (hpk:p.op=4/\p.kind≠64) (h2:Is (Yq ⟨st',op,b'⟩ 10) ⟨st',op,b''⟩):Is (SQ ⟨st,op,b⟩) ⟨st',op,b''⟩:=by
 have hb:=acN h2
 unfold Is at *;unfold SQ;simp only;rw [<-h,VU hp,if_pos hpk,<-h2]
 exact (if_neg hb).symm
theorem ak8 {b':Int} {st':xO} {p:ZD} (hp:op[op.length-1]?=some p) (h:Is (YL ⟨st,op,b⟩) ⟨st',op,b'⟩) (hpk:¬(p.op=4/\p.kind≠64)) (hb:b'≠0):Is (SQ ⟨st,op,b⟩) ⟨st',op,b'⟩:=by
 unfold Is at *;unfold SQ;simp only;rw [<-h,VU hp,if_neg hpk]
 exact (if_neg hb).symm
theorem ak9 {b':Int} {st' ala:xO} {p:ZD} (hp:op[op.length-1]?=some p) (h:Is (YL ⟨st,op,b⟩) ⟨st',op,b'⟩) (hpk:¬(p.op=4/\p.kind≠64)) (hb:b'=0) (h3:Is (W7 ⟨st',op.take (op.length-1),b'⟩ p.kind) ⟨ala,op.take (op.length-1),b'⟩):Is (SQ ⟨st,op,b⟩) ⟨ala,op.take (op.length-1),b'⟩:=by
 unfold Is at *;unfold SQ;simp only;rw [<-h,VU hp,if_neg hpk]
 simp only
 rw [if_pos hb,<-h3]
theorem alb (H:Sat g w (Pt pc (yl m [vl,vs,vo,yh b]) 241::Sl 97 1 Yu vs st::Sl 246 5 Yf vo op::l)) (a bb:Int) (tv:Value) (tt:xO) (ht:Z0 g ZJ WD 1 tv tt) (hn:0<op.length) (hop:op.length<=99) (hst:st.length<=90000) (hok:Xj st op):xP 190 #[yg pc,.agg #[.int .u8 11,yh a,yh bb,tv]] w (fun r w'=>∃vs' SI st' op' b',Is (Zy ⟨st,op,b⟩ ⟨11,a,bb,tt⟩) ⟨st',op',b'⟩/\Xj st' op'/\st'.length<=st.length+1/\Sat g w' (Pt pc (yl m [vl,vs',SI,yh b']) 241::Sl 97 1 Yu vs' st'::Sl 246 5 Yf SI op'::l)):=by
 obtain ⟨p,hp⟩:∃p,op[op.length-1]?=some p:=⟨_,laa yp⟩
 by_cases hpk:p.op=4/\p.kind≠64
 .obtain ⟨zy,an7⟩:=hpk
  refine Fc.of Tryz.func190 rfl k_d<|ZL H<|fun p1 w1 H=>Z9 rfl<|ye H 0 0 x9<|bk<|cF (Z5 yp)<|cF (Z5 yp)<|cF (Z5 yp)<|cF (Z5 yp)<|cF (Z5 yp)<|cT (ZK yp)<|H.Z8 [3,3,3]<|fun H=>?_
  refine Z7.mk (Fc.imp (Valid.close H _ hp yp yp yp yp) ?_)
  rintro _ w2 ⟨Zt,⟨YX,⟨XF,⟨rfl,⟨h1,⟨h2,⟨h3,H⟩⟩⟩⟩⟩⟩⟩
  refine ZV H rfl<|fun p2 w3 H=>ZG H 0 rfl rfl rfl rfl<|fun w2 H=>Z9 rfl<|ye H 0 0 x9<|Vt (ZK yo)<|Z9 rfl<|ye H 0 1 x9<|cT (WE yo)<|H.Z8 [3,3,3]<|fun H=>?_
  refine Z7.mk (Fc.imp (Valid.fail H _) ?_)
  rintro v' w3 ⟨IQ,⟨h4,H⟩⟩
  have hbb:=acN h4
  refine Z9 rfl<|ye H 0 14 x9<|cF (Z5 yo)<|Z6.mk ?_
  refine ⟨Zt,vo,YX,op,IQ,?_⟩
  constructor
  .exact c11 (an6 hp h1 ⟨zy,an7⟩ h4)
  refine ⟨yp,?_⟩
  refine ⟨yp,?_⟩
  exact xU H [4,3]<|fun H=>H
 .refine Fc.of Tryz.func190 rfl k_d<|ZL H<|fun p1 w1 H=>Z9 rfl<|ye H 0 0 x9<|bk<|cF (Z5 yp)<|cF (Z5 yp)<|cF (Z5 yp)<|cF (Z5 yp)<|cF (Z5 yp)<|cT (ZK yp)<|H.Z8 [3,3,3]<|fun H=>?_
  refine Z7.mk (Fc.imp (Valid.close H _ hp yp yp yp yp) ?_)
  rintro _ w2 ⟨Zt,⟨YX,⟨XF,⟨rfl,⟨h1,⟨h2,⟨h3,H⟩⟩⟩⟩⟩⟩⟩
  refine ZV H rfl<|fun p2 w3 H=>ZG H 0 rfl rfl rfl rfl<|fun w2 H=>Z9 rfl<|ye H 0 0 x9 ?_
  refine br (fun c1=>?_) (fun c1=>?_)
  focus
   replace c1:=ZR (c1)
   refine Z9 rfl<|ye H 0 1 x9<|cF (XL yp)<|Z9 rfl<|ye H 1 14 x9 ?_
   refine xR (fun c2=>?_) (fun c2=>?_)
   rotate_left
   .refine Z6.mk ?_
    refine ⟨Zt,vo,YX,op,XF,?_⟩
    constructor
    .exact c11 (ak8 hp h1 hpk yp)
    refine ⟨yp,?_⟩
    refine ⟨yp,?_⟩
    exact H.Z8 [3,3,3]<|fun H=>xU H [4,3]<|fun H=>H
   refine ZN H [] [yfp0,yfp1,yfp2,yfp3,yfh4,yfp5,yfp6,yfp7,yfh8,yfp9,yfp10,yfp11,yfp12,yfp13,yffr14] mixed k_d k_d<|fun w3 H=>yc rfl rfl<|yd 1 13 x9 rfl<|yc rfl rfl<|yd 1 13 x9 rfl ?_
   obtain ⟨a1,c3,V1⟩:=H.form 3 rfl
   refine tk (fun _ Z=>XQ V1 rfl yj)<|ZX yp ?_
   obtain ⟨v1,V2⟩:=H.vw 3 rfl (0) (((op.length)-1)) yp yp
   refine tk (fun _ Z=>Wp V2 rfl rfl (.inl yj) (.inr ⟨_,by first|rfl|(congr 2;omega)⟩) yj)<|yc rfl rfl<|Yo H 1 rfl rfl rfl k_y<|fun w2 H=>Z9 rfl<|ye H 0 1 x9 ?_
  rotate_left 1
  focus
   replace c1:=ZQ (c1)
   refine cF rfl<|Z9 rfl<|ye H 1 14 x9 ?_
   refine xR (fun c2=>?_) (fun c2=>?_)
   rotate_left
   .refine Z6.mk ?_
    refine ⟨Zt,vo,YX,op,XF,?_⟩
    constructor
    .exact c11 (ak8 hp h1 hpk yp)
    refine ⟨yp,?_⟩
    refine ⟨yp,?_⟩
    exact H.Z8 [3,3,3]<|fun H=>xU H [4,3]<|fun H=>H
   refine ZN H [] [yfp0,yfp1,yfp2,yfp3,yfh4,yfp5,yfp6,yfp7,yfh8,yfp9,yfp10,yfp11,yfp12,yfp13,yffr14] mixed k_d k_d<|fun w3 H=>yc rfl rfl<|yd 1 13 x9 rfl<|yc rfl rfl<|yd 1 13 x9 rfl ?_
   obtain ⟨a1,c3,V1⟩:=H.form 3 rfl
   refine tk (fun _ Z=>XQ V1 rfl yj)<|ZX yp ?_
   obtain ⟨v1,V2⟩:=H.vw 3 rfl (0) (((op.length)-1)) yp yp
   refine tk (fun _ Z=>Wp V2 rfl rfl (.inl yj) (.inr ⟨_,by first|rfl|(congr 2;omega)⟩) yj)<|yc rfl rfl<|Yo H 1 rfl rfl rfl k_y<|fun w2 H=>Z9 rfl<|ye H 0 1 x9 ?_
  rotate_left 1
  .replace H:=H.KF 3 rfl V2
   simp only [List.set_cons_succ,List.set_cons_zero] at H
   refine H.Z8 [3,3,3]<|fun H=>?_
   refine Z7.mk (Fc.imp (Valid.push H _ yp) ?_)
   rintro v' w3 ⟨Vz,⟨UK,⟨h4,⟨h5,⟨h6,H⟩⟩⟩⟩⟩
   refine Z6.mk ?_
   refine ⟨Vz,v1,UK,List.take (op.length-1) op,XF,?_⟩
   constructor
   .exact c11 (ak9 hp h1 hpk yo yo)
   constructor
   .exact (h2.more yp).less
   refine ⟨yp,?_⟩
   exact xU H [4,3]<|fun H=>H
  .replace H:=H.KF 3 rfl V2
   simp only [List.set_cons_succ,List.set_cons_zero] at H
   refine H.Z8 [3,3,3]<|fun H=>?_
   refine Z7.mk (Fc.imp (Valid.push H _ yp) ?_)
   rintro v' w3 ⟨Vz,⟨UK,⟨h4,⟨h5,⟨h6,H⟩⟩⟩⟩⟩
   refine Z6.mk ?_
   refine ⟨Vz,v1,UK,List.take (op.length-1) op,XF,?_⟩
   constructor
   .exact c11 (ak9 hp h1 hpk yo yo)
   constructor
   .exact (h2.more yp).less
   refine ⟨yp,?_⟩
   exact xU H [4,3]<|fun H=>H
end
end Go.Proofs.YtakpnepblgfknaaGreatDoor.Valid
namespace Go.Proofs.YtakpnepblgfknaaGreatDoor.Valid
open Go YY Go.RowKit
open YT Zl X6 YP
theorem acO (o:Int) (w:World):xP 236 #[.int .u8 o] w (fun v w'=>(∃r,v=.int .u8 r/\r=TF o)/\w=w'):=by
 refine Fc.of Tryz.func236 rfl k_d ?_
 have H:=Sat.start w
 refine bk ?_
 refine xR (fun c1=>?_) (fun c1=>?_)
 .refine cT (ZK yo)<|Z6.mk ?_
  constructor
  .refine ⟨127,?_⟩
   constructor
   .simp
   exact (if_pos yp).symm
  rfl
 refine xR (fun c2=>?_) (fun c2=>?_)
 .refine cT (ZK yo)<|Z6.mk ?_
  constructor
  .refine ⟨127,?_⟩
   constructor
   .simp
   exact (if_pos yp).symm
  rfl
 refine xR (fun c3=>?_) (fun c3=>?_)
 .refine cT (ZK yo)<|Z6.mk ?_
  constructor
  .refine ⟨127,?_⟩
   constructor
   .simp
   exact (if_pos yp).symm
  rfl
 refine xR (fun c4=>?_) (fun c4=>?_)
 .refine cT (ZK yo)<|Z6.mk ?_
  constructor
  .refine ⟨127,?_⟩
   constructor
   .simp
   exact (if_pos yp).symm
  rfl
 refine xR (fun c5=>?_) (fun c5=>?_)
 .refine cT (ZK yo)<|Z6.mk ?_
  constructor
  .refine ⟨127,?_⟩
   constructor
   .simp
   exact (if_pos yp).symm
  rfl
 refine xR (fun c6=>?_) (fun c6=>?_)
 .refine cT (ZK yo)<|Z6.mk ?_
  constructor
  .refine ⟨127,?_⟩
   constructor
   .simp
   exact (if_pos yp).symm
  rfl
 refine xR (fun c7=>?_) (fun c7=>?_)
 .refine cT (ZK yo)<|Z6.mk ?_
  constructor
  .refine ⟨127,?_⟩
   constructor
   .simp
   exact (if_pos yp).symm
  rfl
 refine xR (fun c8=>?_) (fun c8=>?_)
 .refine Z6.mk ?_
  constructor
  .refine ⟨127,?_⟩
   constructor
   .simp
   exact (if_pos yp).symm
  rfl
 refine Z6.mk ?_
 constructor
 .refine ⟨126,?_⟩
  constructor
  .simp
  exact (if_neg yp).symm
 rfl
section
variable {o k:Int} {xs:xO} {b:Bool}
theorem an8 (h:XK o=(xs,k,b)) (hb:b=true):W6 o=(xs,[k],true):=by grind [W6]
theorem Il (h:XK o=(xs,k,b)) (hb:b=false):W6 o=if 0<wid o/\o<54 then ([127],[TF o],true) else if 0<wid o then ([127,TF o],[],true) else if o=63 then ([],[127],true) else if o=64 then ([127],[127],true) else if o=65 then ([],[127],true) else if o=66 then ([],[126],true) else ([],[],false):=by grind [W6]
end
theorem MP (o:Int) (w:World):xP 224 #[.int .u8 o] w (fun v w'=>∃u y xs ys q,v=.tuple #[u,y,.bool q]/\W6 o=(xs,ys,q)/\Sat (Wy w) w' [Sl 97 1 Yu y ys,Sl 97 1 Yu u xs]):=by
 refine Fc.of Tryz.func224 rfl k_d ?_
 have H:=Sat.start w
 refine Z7.mk (Fc.imp (YT.KI _ _) ?_)
 rintro _ w1 ⟨u1,⟨k1,⟨b1,⟨Jt,⟨rfl,⟨h1,H'⟩⟩⟩⟩⟩⟩
 refine H.XW H' ?_
 clear H H'
 intro H
 refine cI (fun c1=>?_) (fun c1=>?_)
 .refine ZZ H rfl rfl rfl rfl<|fun p1 w2 H=>Z6.mk ?_
  (refine H.Wr (n:=1) (en:=Yu) (s:=1) 0 rfl [_] rfl rfl (fun _=>rfl) rfl ?_;intro H;exact ⟨_,_,_,_,_,rfl,an8 h1 yo,H⟩)
 refine bk ?_
 refine Z7.mk (Fc.imp (YT.width _ _) ?_)
 rintro _ _ ⟨⟨r1,⟨rfl,h2⟩⟩,rfl⟩
 refine br (fun c2=>?_) (fun c2=>?_)
 .replace c2:=YI (c2)
  refine xT (fun c3=>?_) (fun c3=>?_)
  .refine ZZ H rfl rfl rfl rfl<|fun p1 w2 H=>?_
   refine Z7.mk (Fc.imp (Valid.acO _ _) ?_)
   rintro _ _ ⟨⟨r2,⟨rfl,h3⟩⟩,rfl⟩
   refine ZZ H rfl rfl rfl rfl<|fun p2 w1 H=>Z6.mk ?_
   (refine H.Wr (n:=1) (en:=Yu) (s:=1) 0 rfl [_] rfl rfl (fun _=>rfl) rfl ?_;intro H;refine H.Wr (n:=1) (en:=Yu) (s:=1) 1 rfl [_] rfl rfl (fun _=>rfl) rfl ?_;intro H;exact ⟨_,_,_,_,_,rfl,(Il h1 yo).trans (by grind),H.del 2⟩)
  refine Z7.mk (Fc.imp (YT.width _ _) ?_)
  rintro _ _ ⟨⟨r2,⟨rfl,h3⟩⟩,rfl⟩
  refine cT (Y9 yp) ?_
  refine Z7.mk (Fc.imp (Valid.acO _ _) ?_)
  rintro _ _ ⟨⟨r3,⟨rfl,h4⟩⟩,rfl⟩
  refine ZZ H rfl rfl rfl rfl<|fun p1 w2 H=>Z6.mk ?_
  (refine H.Wr (n:=2) (en:=Yu) (s:=1) 0 rfl [_,_] rfl rfl (fun _=>rfl) rfl ?_;intro H;exact ⟨_,_,_,_,_,rfl,(Il h1 yo).trans (by grind),(H.Ve (en:=Yu) (s:=1) 97 (fun _=>rfl)).del 2⟩)
 replace c2:=YH (c2)
 refine cF rfl ?_
 refine Z7.mk (Fc.imp (YT.width _ _) ?_)
 rintro _ _ ⟨⟨r2,⟨rfl,h3⟩⟩,rfl⟩
 refine cF (Zs yp) ?_
 refine xR (fun c3=>?_) (fun c3=>?_)
 .refine ZZ H rfl rfl rfl rfl<|fun p1 w2 H=>Z6.mk ?_
  (refine H.Wr (n:=1) (en:=Yu) (s:=1) 0 rfl [_] rfl rfl (fun _=>rfl) rfl ?_;intro H;exact ⟨_,_,_,_,_,rfl,(Il h1 yo).trans (by grind),((H.Ve (en:=Yu) (s:=1) 97 (fun _=>rfl)).front (j:=1) rfl).del 2⟩)
 refine xR (fun c4=>?_) (fun c4=>?_)
 .refine ZZ H rfl rfl rfl rfl<|fun p1 w2 H=>ZZ H rfl rfl rfl rfl<|fun p2 w1 H=>Z6.mk ?_
  (refine H.Wr (n:=1) (en:=Yu) (s:=1) 0 rfl [_] rfl rfl (fun _=>rfl) rfl ?_;intro H;refine H.Wr (n:=1) (en:=Yu) (s:=1) 1 rfl [_] rfl rfl (fun _=>rfl) rfl ?_;intro H;exact ⟨_,_,_,_,_,rfl,(Il h1 yo).trans (by grind),H.del 2⟩)
 refine xR (fun c5=>?_) (fun c5=>?_)
 .refine ZZ H rfl rfl rfl rfl<|fun p1 w2 H=>Z6.mk ?_
  (refine H.Wr (n:=1) (en:=Yu) (s:=1) 0 rfl [_] rfl rfl (fun _=>rfl) rfl ?_;intro H;exact ⟨_,_,_,_,_,rfl,(Il h1 yo).trans (by grind),((H.Ve (en:=Yu) (s:=1) 97 (fun _=>rfl)).front (j:=1) rfl).del 2⟩)
 refine xR (fun c6=>?_) (fun c6=>?_)
 .refine ZZ H rfl rfl rfl rfl<|fun p1 w2 H=>Z6.mk ?_
  (refine H.Wr (n:=1) (en:=Yu) (s:=1) 0 rfl [_] rfl rfl (fun _=>rfl) rfl ?_;intro H;exact ⟨_,_,_,_,_,rfl,(Il h1 yo).trans (by grind),((H.Ve (en:=Yu) (s:=1) 97 (fun _=>rfl)).front (j:=1) rfl).del 2⟩)
 exact Z6.mk<|⟨_,_,_,_,_,rfl,(Il h1 yo).trans (by grind),((H.Ve (en:=Yu) (s:=1) 97 (fun _=>rfl)).Ve (en:=Yu) (s:=1) 97 (fun _=>rfl)).del 2⟩
section
variable {g:Zz} {w:World} {l:List As} {pc:Nat} {m:Zj} {vl vs vo:Value} {st:xO} {op:List ZD} {b:Int}
theorem Ik (v:Value) (xs:xO) (H:Sat g w (Pt pc (yl m [vl,vs,vo,yh b]) 241::Sl 97 1 Yu vs st::Sl 246 5 Yf vo op::Sl 97 1 Yu v xs::l)) (hl:xs.length<=1000) (hn:0<op.length) (hop:op.length<=100) (hst:st.length<=90000) (hok:Xj st op):xP 222 #[yg pc,v] w (fun r w'=>∃vs' st' b',Is (Xc ⟨st,op,b⟩ xs) ⟨st',op,b'⟩/\Xj st' op/\st'.length<=st.length/\Sat g w' (Pt pc (yl m [vl,vs',vo,yh b']) 241::Sl 97 1 Yu vs' st'::Sl 246 5 Yf vo op::Sl 97 1 Yu v xs::l)):=by
 refine Fc.of Tryz.func222 rfl k_d<|YN H 3 rfl rfl<|ZX yp ?_
 refine YV.rule (α:=Nat × xO × Int × Value) (xs.length,st,b,vs) (fun x_=>[(4,yh ((x_.1:Int)-1))]) (fun x_ w_=>(x_.1<=xs.length)/\(Is (Xc ⟨st,op,b⟩ (xs.drop x_.1)) ⟨x_.2.1,op,x_.2.2.1⟩)/\(Xj x_.2.1 op)/\(x_.2.1.length<=st.length)/\Sat g w_ ((Pt pc (yl m [vl,x_.2.2.2,vo,yh x_.2.2.1]) 241::Sl 97 1 Yu x_.2.2.2 x_.2.1::Sl 246 5 Yf vo op::Sl 97 1 Yu v xs::l))) (fun x_=>x_.1) ?_ ?_ ?_
 .exact k_a
 .try simp only
  refine ⟨yp,?_⟩
  constructor
  .exact ahW (loa _)
  refine ⟨yo,?_⟩
  refine ⟨yp,?_⟩
  exact H
 rintro ⟨i,s1,b1,u1⟩ f_ w_ ⟨hi,ht,ho,hs,H⟩
 try simp only at hi ht ho hs H ⊢
 rcases lOb i with h0|h0
 .subst h0
  refine cF (Yy yp)<|Z6.mk ?_
  refine ⟨u1,s1,b1,?_⟩
  refine ⟨yo,?_⟩
  refine ⟨yo,?_⟩
  refine ⟨yo,?_⟩
  exact H
 .obtain ⟨j,rfl⟩:∃j,i=j+1:=⟨i-1,by omega⟩
  have e:((j+1:Nat):Int)-1=(j:Int):=by omega
  rw [e]
  obtain ⟨k,hk⟩:∃k,xs[j]?=some k:=⟨_,laa yp⟩
  refine cT (Yc yp)<|bk ?_
  obtain ⟨b2,o1,E1⟩:=H.Y5 3 rfl (j) yp
  refine ZI E1 rfl rfl rfl<|xW (H.el 3 rfl E1 hk) 0 xV ?_
  refine Z7.mk (Fc.imp (Valid.pop H _ yo yo yp yo) ?_)
  rintro _ w1 ⟨k1,⟨Zt,⟨YX,⟨XF,⟨rfl,⟨h1,⟨h2,⟨h3,H⟩⟩⟩⟩⟩⟩⟩⟩
  refine ZX yp ?_
  refine W0.mk ((j,YX,XF,Zt)) (ZO rfl (ZW)) ?_ ?_
  .refine ⟨yp,?_⟩
   constructor
   .exact HC hk ht yo
   refine ⟨yo,?_⟩
   constructor
   .grind
   exact H
  omega
theorem Ij (v:Value) (xs:xO) (H:Sat g w (Pt pc (yl m [vl,vs,vo,yh b]) 241::Sl 97 1 Yu vs st::Sl 246 5 Yf vo op::Sl 97 1 Yu v xs::l)) (hl:xs.length<=1000) (hst:st.length<=90000):xP 223 #[yg pc,v] w (fun r w'=>∃vs' st',Is (WH ⟨st,op,b⟩ xs) ⟨st',op,b⟩/\st.length<=st'.length/\st'.length<=st.length+xs.length/\Sat g w' (Pt pc (yl m [vl,vs',vo,yh b]) 241::Sl 97 1 Yu vs' st'::Sl 246 5 Yf vo op::Sl 97 1 Yu v xs::l)):=by
 refine Fc.of Tryz.func223 rfl k_d<|YN H 3 rfl rfl ?_
 refine YV.rule (α:=Nat × xO × Value) (0,st,vs) (fun x_=>[(8,yh x_.1)]) (fun x_ w_=>(x_.1<=xs.length)/\(GI st op b xs x_.1 x_.2.1)/\(st.length<=x_.2.1.length/\x_.2.1.length<=st.length+x_.1)/\Sat g w_ ((Pt pc (yl m [vl,x_.2.2,vo,yh b]) 241::Sl 97 1 Yu x_.2.2 x_.2.1::Sl 246 5 Yf vo op::Sl 97 1 Yu v xs::l))) (fun x_=>xs.length-x_.1) ?_ ?_ ?_
 .exact k_a
 .try simp only
  refine ⟨yp,?_⟩
  constructor
  .exact GI.zero
  refine ⟨yp,?_⟩
  exact H
 rintro ⟨i,s1,u1⟩ f_ w_ ⟨hi,hg,hs,H⟩
 try simp only at hi hg hs H ⊢
 refine xT (fun c1=>?_) (fun c1=>?_)
 .refine bk ?_
  obtain ⟨x1,hx1⟩:∃x,(xs)[(i)]?=some x:=⟨_,laa yp⟩
  obtain ⟨b1,o1,E1⟩:=H.Y5 3 rfl (i) yp
  refine ZI E1 rfl rfl rfl<|xW (H.el 3 rfl E1 hx1) 0 xV ?_
  refine Z7.mk (Fc.imp (Valid.push H _ yp) ?_)
  rintro v' w1 ⟨Zt,⟨YX,⟨h1,⟨h2,⟨h3,H⟩⟩⟩⟩⟩
  refine ZX yp ?_
  refine W0.mk ((i+1,YX,Zt)) (Zr rfl yp (ZW)) ?_ ?_
  .refine ⟨yp,?_⟩
   constructor
   .exact GI.step hg hx1 yo
   constructor
   .grind
   exact H
  omega
 refine Z6.mk ?_
 refine ⟨u1,s1,?_⟩
 constructor
 .exact hg.fin yp
 refine ⟨yp,?_⟩
 refine ⟨yp,?_⟩
 exact H
end
end Go.Proofs.YtakpnepblgfknaaGreatDoor.Valid
