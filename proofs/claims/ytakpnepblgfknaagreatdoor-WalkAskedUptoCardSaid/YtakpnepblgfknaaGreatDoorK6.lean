/- Texts of this claim, one behind the other. -/
import Derived.Test.YtakpnepblgfknaaGreatDoorK4
import Derived.Shelf.Unicode.ValidAny
import Derived.Ground.NamesProg
import Derived.Test.YtakpnepblgfknaaGreatDoorProg
set_option maxRecDepth 100000
set_option maxHeartbeats 4000000
set_option linter.unusedVariables false
set_option linter.unusedSimpArgs false
set_option linter.defProp false
namespace Go.Proofs
open Go.Shelf
def Tryz.WJ : Go.Shelf.Ren := ⟨fun | 196 => 233 | 259 => 253 | n => n, fun | 9 => 9 | 4 => 4 | 3 => 3 | 5 => 5 | 12 => 12 | 119 => 222 | 0 => 0 | 46 => 266 | 139 => 344 | 138 => 343 | 53 => 226 | n => n, fun | 3 => 0 | 4 => 1 | n => n⟩
theorem Tryz.acI : Go.Proofs.Lays.n196 Tryz.prog Tryz.WJ := {
 mixed := by kernel_rfl
 f196 := Tryz.func233.trans (congrArg some (by kernel_rfl))
 f259 := Tryz.func253.trans (congrArg some (by kernel_rfl))
 t0 := Tryz.underlying0
 a0 := Tryz.isAgg0
 z0 := Tryz.sizeOf0
 v0 := Tryz.zeroValue0
 t3 := Tryz.underlying3
 a3 := Tryz.isAgg3
 z3 := Tryz.sizeOf3
 v3 := Tryz.zeroValue3
 t4 := Tryz.underlying4
 a4 := Tryz.isAgg4
 z4 := Tryz.sizeOf4
 v4 := Tryz.zeroValue4
 t5 := Tryz.underlying5
 a5 := Tryz.isAgg5
 z5 := Tryz.sizeOf5
 v5 := Tryz.zeroValue5
 t9 := Tryz.underlying9
 a9 := Tryz.isAgg9
 z9 := Tryz.sizeOf9
 v9 := Tryz.zeroValue9
 t12 := Tryz.underlying12
 a12 := Tryz.isAgg12
 z12 := Tryz.sizeOf12
 v12 := Tryz.zeroValue12
 t46 := Tryz.underlying266
 a46 := Tryz.isAgg266
 z46 := Tryz.sizeOf266
 v46 := Tryz.zeroValue266
 t53 := Tryz.underlying226
 a53 := Tryz.isAgg226
 z53 := Tryz.sizeOf226
 v53 := Tryz.zeroValue226
 t119 := Tryz.underlying222
 a119 := Tryz.isAgg222
 z119 := Tryz.sizeOf222
 t138 := Tryz.underlying343
 a138 := Tryz.isAgg343
 z138 := Tryz.sizeOf343
 v138 := Tryz.zeroValue343
 t139 := Tryz.underlying344
 a139 := Tryz.isAgg344
 z139 := Tryz.sizeOf344
 v139 := Tryz.zeroValue344
 g3 := by kernel_rfl
 g4 := by kernel_rfl }
open Go.RowKit Go.Lib in
theorem Tryz.utf8_ValidString (s : ByteArray) (w : World) (hs : s.size <= 9223372036854775807) (hT : Lib.Utf8Tabs (Tryz.WJ.g 3) (Tryz.WJ.g 4) w) :
  Calls Tryz.prog (Tryz.WJ.f 196) #[.string s] w fun e w' => e = .returned (.bool (Lib.validD s.data.toList)) /\ Below w.heap.size w w' := Any.utf8_ValidString Tryz.acI s w hs hT
end Go.Proofs
namespace Go.Proofs.YtakpnepblgfknaaGreatDoor.X4
open Go Y2 Go.RowKit
section
variable {g:ZB} {w:World} {l:List As}
def M9 (g:ZB):Prop:=∀(w:World) (l:List As),Sat g w l->Lib.Utf8Tabs (Tryz.WJ.g 3) (Tryz.WJ.g 4) w
theorem ago (s:zl):(bs s).data.toList=s:=by grind [bs]
theorem aal (H:Sat g w l) (hT:M9 g) (s:zl) (hs:s.length<=9223372036854775807):zn 233 #[.string (bs s)] w (fun v w'=>∃b,v=.bool b/\b=Lib.validD s/\Sat g w' l):=by
 refine Fc.Lj Tryz.func233 rfl k_e<|(Tryz.utf8_ValidString (bs s) w (by grind [Ts]) (hT w l H)).mono ?_
 rintro e w' ⟨rfl,hb⟩
 exact ⟨_,rfl,_,rfl,by rw [ago],H.below hb⟩
def PM (s:zl):Int:=if 16<s.length then 2 else if Lib.validD s=true then 0 else 4
theorem name (H:Sat g w l) (hT:M9 g) (s:zl) (hs:s.length<=9223372036854775807):zn 207 #[.string (bs s)] w (fun v w'=>∃t e,v=.tuple #[.string (bs t),zJ e]/\e=PM s/\t=(if PM s=0 then W7 s.length++s else [])/\t.length<=30/\Sat g w' l):=by
 refine Fc.of Tryz.func207 rfl k_e ?_
 by_cases CR:16<s.length
 .have hE:PM s=2:=if_pos CR
  rw [hE,if_neg (by decide)]
  refine bk<|XE rfl<|cT (Y9 zO)<|Z5.mk ?_
  refine ⟨[],2,?_⟩
  refine ⟨rfl,?_⟩
  refine ⟨zO,?_⟩
  refine ⟨rfl,?_⟩
  constructor
  .grind
  exact H
 .cases hv:Lib.validD s
  .have hE:PM s=4:=by grind [PM]
   rw [hE,if_neg (by decide)]
   refine bk<|XE rfl<|cF (Zj zO) ?_
   refine Z8.mk (Fc.imp (X4.aal H zO _ zO) ?_)
   rintro _ w1 ⟨b1,⟨rfl,⟨h1,H⟩⟩⟩
   rw [hv] at h1
   subst h1
   refine cT rfl<|Z5.mk ?_
   refine ⟨[],4,?_⟩
   refine ⟨rfl,?_⟩
   refine ⟨zO,?_⟩
   refine ⟨rfl,?_⟩
   constructor
   .grind
   exact H
  .have hE:PM s=0:=by grind [PM]
   rw [hE,if_pos rfl]
   refine bk<|XE rfl<|cF (Zj zO) ?_
   refine Z8.mk (Fc.imp (X4.aal H zO _ zO) ?_)
   rintro _ w1 ⟨b1,⟨rfl,⟨h1,H⟩⟩⟩
   rw [hv] at h1
   subst h1
   refine cF rfl<|XE rfl<|PW zO rfl rfl ?_
   refine Z8.mk (Fc.imp (X4.U _ (s.length) zO zO _) ?_)
   rintro _ w2 ⟨l1,⟨rfl,⟨h1,⟨h2,H'⟩⟩⟩⟩
   refine H.X8 H' ?_
   clear H H'
   intro H
   refine amQ zO<|Z5.mk ?_
   refine ⟨l1++s,0,?_⟩
   refine ⟨rfl,?_⟩
   refine ⟨zO,?_⟩
   constructor
   .grind
   constructor
   .grind
   exact H
end
end Go.Proofs.YtakpnepblgfknaaGreatDoor.X4
namespace Go.Proofs.YtakpnepblgfknaaGreatDoor.YS
open Go Y2 Go.RowKit
open YZ Zn X4
def fst (a b:Int):Int:=if a=0 then b else a
theorem Wy (b:Int):fst 0 b=b:=if_pos rfl
theorem S7 {a:Int} (b:Int) (h:a≠0):fst a b=a:=if_neg h
theorem akt (a:Int):fst a 0=a:=by grind [fst]
theorem Vf (a b c:Int):fst (fst a b) c=fst a (fst b c):=by grind [fst]
theorem Zk {a b:Int}:fst a b=0↔a=0/\b=0:=by grind [fst]
def FE (b e c:Int):Prop:=c=fst b e
theorem FE.eq {b e c:Int} (h:FE b e c):c=fst b e:=h
theorem FE.two {b c d e f:Int} (h:FE b e c) (h':FE c f d):FE b (fst e f) d:=by grind [FE,Vf]
def Tl (k:Int):Int:=if k=127\/k=126 then 0 else 1
def UA (n:Int):Int:=if 0<=n/\n<=4294967295 then 0 else 1
def OB (n:Int):Int:=if -2147483648<=n/\n<=2147483647 then 0 else 1
def Ym {α:Type} (f:α->Int):List α->Int
 | []=>0
 | x::r=>fst (f x) (Ym f r)
def L5 (n:Nat) (m:Int):Int:=if (n:Int)<=m then 0 else 2
def Yn {α:Type} (m:Int) (f:α->Int) (l:List α):Int:=fst (L5 l.length m) (Ym f l)
theorem PL {α β:Type} (f:β->Int) (d:α->β) (l:List α):Ym f (l.map d)=Ym (fun x=>f (d x)) l:=by
 induction l with
 | nil=>rfl
 | cons x r ih=>rw [leb,Ym,Ym,ih]
theorem aaE {α β:Type} (m:Int) (f:β->Int) (d:α->β) (l:List α):Yn m f (l.map d)=Yn m (fun x=>f (d x)) l:=by grind [Yn,PL,List.length_map]
theorem Ue {α:Type} {f:α->Int} {l:List α}:Ym f l=0↔∀x∈l,f x=0:=by
 induction l with
 | nil=>simp [Ym]
 | cons x r ih=>rw [Ym,Zk,ih];simp
theorem VI {α:Type} {m:Int} {f:α->Int} {l:List α}:Yn m f l=0↔(l.length:Int)<=m/\∀x∈l,f x=0:=by
 unfold Yn L5
 rw [Zk,Ue]
 by_cases h:(l.length:Int)<=m
 .simp
 .omega
structure Xv where
 Za:zm
 out:zm
structure PJ where
 ty:Int
 loc:zm
 body:List ZW
structure YP where
 types:List Xv
 Zz:List (zl × Int)
 funcs:List PJ
 table:Int
 pages:Int
 most:Int
 globals:List (Int × Bool × Int)
 VV:List (zl × Int)
 start:Int
 elems:List (Int × zm)
 data:List (Int × zl)
def I4 (s:Xv):Int:=fst (Yn 4 Tl s.Za) (Yn 1 Tl s.out)
def PI (x:zl × Int):Int:=fst (PM x.1) (UA x.2)
def K5 (f:PJ):Int:=fst (UA f.ty) (fst (Yn 16 Tl f.loc) (Yu f.body))
def OA (k n:Int):Int:=if k≠127\/(-2147483648<=n/\n<=2147483647) then 0 else 1
def Mn (x:Int × Bool × Int):Int:=fst (Tl x.1) (OA x.1 x.2.2)
def Fw (x:Int × zm):Int:=fst (OB x.1) (Yn 16 UA x.2)
def Mm (x:Int × zl):Int:=fst (OB x.1) (L5 x.2.length 64)
def CQ (a b:Int):Int:=if a<=b then 0 else 1
def JV (p m:Int):Int:=if 0<=p/\p<=m then 0 else 1
def CP (a b:Int):Int:=if a<=b then 0 else 2
def Oz (m:YP):Int :=
 fst (Yn 16 I4 m.types) (fst (Yn 16 PI m.Zz) (fst (Yn 16 K5 m.funcs) (fst (CQ 0 m.table) (fst (CP m.table 16) (fst (JV m.pages m.most) (fst (CP m.most 8)
  (fst (Yn 8 Mn m.globals) (fst (Yn 8 PI m.VV) (fst (UA m.start) (fst (Yn 4 Fw m.elems) (Yn 4 Mm m.data)))))))))))
structure XK where
 vi:Value
 Za:zm
 vo:Value
 out:zm
structure Yt where
 ty:Int
 vl:Value
 loc:zm
 vb:Value
 body:List Y6
structure R5 where
 pl:Int
 vf:Value
 fs:zm
structure Zg where
 vt:Value
 types:List XK
 vm:Value
 Zz:List (zl × Int)
 vf:Value
 funcs:List Yt
 table:Int
 pages:Int
 most:Int
 vg:Value
 globals:List (Int × Bool × Int)
 vx:Value
 VV:List (zl × Int)
 start:Int
 ve:Value
 elems:List R5
 vd:Value
 data:List (Int × zl)
abbrev zL (m:Zg) (r:List Go.Value):List Go.Value:=m.vt::m.vm::m.vf::.int .i64 m.table::.int .i64 m.pages::.int .i64 m.most::m.vg::m.vx::.int .i64 m.start::m.ve::m.vd::r
def XK.d (x:XK):Xv:=⟨x.Za,x.out⟩
def Yt.d (x:Yt):PJ:=⟨x.ty,x.loc,x.body.map Y6.d⟩
def R5.d (x:R5):Int × zm:=(x.pl,x.fs)
def Zg.d (m:Zg):YP:=⟨m.types.map XK.d,m.Zz,m.funcs.map Yt.d,m.table,m.pages,m.most,m.globals,m.VV,m.start,m.elems.map R5.d,m.data⟩
def Oy (x:XK):zk:=[x.vi,x.vo]
def TM (x:zl × Int):zk:=[.string (bs x.1),.int .i64 x.2]
def Ox (x:Yt):zk:=[.int .i64 x.ty,x.vl,x.vb]
def N8 (x:Int × Bool × Int):zk:=[.int .u8 x.1,.bool x.2.1,.int .i64 x.2.2]
def Fv (x:R5):zk:=[.int .i64 x.pl,x.vf]
def HO (x:Int × zl):zk:=[.int .i64 x.1,.string (bs x.2)]
def ani (m:Zg):zk:=(zL m [])
structure Wx (g:ZB) (x:XK):Prop where
 Za:Z6 g Yx U8 1 x.vi x.Za
 out:Z6 g Yx U8 1 x.vo x.out
structure Rt (x:zl × Int):Prop where
 name:x.1.length<=9223372036854775807
 ty:XC x.2
structure Uo (g:ZB) (x:Yt):Prop where
 ty:XC x.ty
 loc:Z6 g Yx U8 1 x.vl x.loc
 body:Z6 g OI (okV g) 4 x.vb x.body
structure K4 (x:Int × Bool × Int):Prop where
 kind:U8 x.1
 start:XC x.2.2
structure Ml (g:ZB) (x:R5):Prop where
 pl:XC x.pl
 fs:Z6 g ZH WV 1 x.vf x.fs
structure I3 (x:Int × zl):Prop where
 pl:XC x.1
 bytes:x.2.length<=9223372036854775807
structure Xu (g:ZB) (m:Zg):Prop where
 types:Z6 g Oy (Wx g) 2 m.vt m.types
 Zz:Z6 g TM Rt 2 m.vm m.Zz
 funcs:Z6 g Ox (Uo g) 3 m.vf m.funcs
 table:XC m.table
 pages:XC m.pages
 most:XC m.most
 globals:Z6 g N8 K4 3 m.vg m.globals
 VV:Z6 g TM Rt 2 m.vx m.VV
 start:XC m.start
 elems:Z6 g Fv (Ml g) 2 m.ve m.elems
 data:Z6 g HO I3 2 m.vd m.data
end Go.Proofs.YtakpnepblgfknaaGreatDoor.YS
namespace Go.Proofs.YtakpnepblgfknaaGreatDoor.YS
open Go Y2 Go.RowKit
open YZ Zn X4
section
variable {g:ZB} {w:World} {l:List As} {pc q:Nat} {b:Int}
theorem isKind (k:Int) (w:World):zn 211 #[.int .u8 k] w (fun v w'=>(∃r,v=.bool r/\(r=true↔k=127\/k=126))/\Sat (WC w) w' []):=by
 refine Fc.of Tryz.func211 rfl k_e ?_
 have H:=Sat.start w
 refine br (fun c1=>?_) (fun c1=>?_)
 .replace c1:=ZS (c1)
  refine Z5.mk ?_
  constructor
  .grind
  exact H
 replace c1:=ZR (c1)
 refine Z5.mk ?_
 constructor
 .grind [YR]
 exact H
theorem To (n:Int) (w:World):zn 209 #[zJ n] w (fun v w'=>(∃r,v=.bool r/\(r=true↔0<=n/\n<=4294967295))/\Sat (WC w) w' []):=by
 refine Fc.of Tryz.func209 rfl k_e ?_
 have H:=Sat.start w
 refine br (fun c1=>?_) (fun c1=>?_)
 .replace c1:=Xt (c1)
  refine Z5.mk ?_
  constructor
  .grind [YM]
  exact H
 replace c1:=Xs (c1)
 refine Z5.mk ?_
 constructor
 .grind
 exact H
theorem agp (n:Int) (hn:XC n) (w:World):zn 213 #[zJ n] w (fun v w'=>(∃r,v=.bool r/\(r=true↔-2147483648<=n/\n<=2147483647))/\Sat (WC w) w' []):=by
 refine Fc.of Tryz.func213 rfl k_e ?_
 have H:=Sat.start w
 refine Zt rfl rfl<|Zt rfl rfl<|Z5.mk ?_
 constructor
 .refine ⟨Kf n (ZO IntKind.i64 (ZO IntKind.i32 n)),?_⟩
  refine ⟨rfl,?_⟩
  exact Lf hn
 exact H
def MA (r:Bool) (e:Int):Int:=if r=true then 0 else e
theorem nd1 {r:Bool} {e:Int} (h:b≠0):FE b (MA r e) b:=(S7 _ h).symm
theorem nd2 {r:Bool} {e:Int} (h:b=0) (hr:r=true):FE b (MA r e) b:=by subst h;subst hr;rfl
theorem nd3 {r:Bool} {e:Int} (h:b=0) (hr:r=false):FE b (MA r e) e:=by subst h;subst hr;rfl
theorem need (H:Sat g w (Pt pc [zJ b] 269::l)) (r:Bool) (e:Int):zn 179 #[zI pc,.bool r,zJ e] w (fun _ w'=>∃c,FE b (MA r e) c/\Sat g w' (Pt pc [zJ c] 269::l)):=by
 refine Fc.of Tryz.func179 rfl k_e<|Z9 rfl<|zG H 0 0 zD ?_
 refine br (fun c1=>?_) (fun c1=>?_)
 .replace c1:=ZS (c1)
  refine cI (fun c2=>?_) (fun c2=>?_)
  .replace c2:=SH (c2)
   refine Z9 rfl<|Yc H 0 rfl rfl rfl rfl<|fun w1 H=>Z5.mk ?_
   refine ⟨e,?_⟩
   constructor
   .exact nd3 zO zN
   exact H
  replace c2:=SG (c2)
  refine Z5.mk ?_
  refine ⟨b,?_⟩
  constructor
  .exact nd2 zO zN
  exact H
 replace c1:=ZR (c1)
 refine cF rfl<|Z5.mk ?_
 refine ⟨b,?_⟩
 constructor
 .exact nd1 zO
 exact H
theorem fe0 {e:Int} (h:b=0):FE b e e:=by subst h;exact (Wy _).symm
theorem anj (H:Sat g w (Pt pc [zJ b] 269::l)) (e:Int):zn 208 #[zI pc,zJ e] w (fun _ w'=>∃c,FE b e c/\Sat g w' (Pt pc [zJ c] 269::l)):=by
 refine Fc.of Tryz.func208 rfl k_e<|Z9 rfl<|zG H 0 0 zD ?_
 refine zq (fun c1=>?_) (fun c1=>?_)
 .refine Z9 rfl<|Yc H 0 rfl rfl rfl rfl<|fun w1 H=>Z5.mk ?_
  refine ⟨e,?_⟩
  constructor
  .exact fe0 zN
  exact H
 refine Z5.mk ?_
 refine ⟨b,?_⟩
 constructor
 .exact (S7 _ zO).symm
 exact H
theorem G3 {r:Bool} {p:Prop} [Decidable p] {e c:Int} (hr:r=true↔p) (h:FE b (MA r e) c):FE b (if p then 0 else e) c:=by grind [FE,MA]
theorem kind (H:Sat g w (Pt pc [zJ b] 269::l)) (k:Int):zn 182 #[zI pc,.int .u8 k] w (fun _ w'=>∃c,FE b (Tl k) c/\Sat g w' (Pt pc [zJ c] 269::l)):=by
 refine Fc.of Tryz.func182 rfl k_e ?_
 refine Z8.mk (Fc.imp (YS.isKind _ _) ?_)
 rintro _ w1 ⟨⟨r1,⟨rfl,h1⟩⟩,H'⟩
 refine H.X8 H' ?_
 clear H H'
 intro H
 refine Z8.mk (Fc.imp (YS.need H _ _) ?_)
 clear H
 rintro v' w2 ⟨c1,⟨h2,H⟩⟩
 refine Z5.mk ?_
 refine ⟨c1,?_⟩
 constructor
 .exact G3 zN zN
 exact H
theorem index (H:Sat g w (Pt pc [zJ b] 269::l)) (n:Int):zn 176 #[zI pc,zJ n] w (fun _ w'=>∃c,FE b (UA n) c/\Sat g w' (Pt pc [zJ c] 269::l)):=by
 refine Fc.of Tryz.func176 rfl k_e ?_
 refine Z8.mk (Fc.imp (YS.To _ _) ?_)
 rintro _ w1 ⟨⟨r1,⟨rfl,h1⟩⟩,H'⟩
 refine H.X8 H' ?_
 clear H H'
 intro H
 refine Z8.mk (Fc.imp (YS.need H _ _) ?_)
 clear H
 rintro v' w2 ⟨c1,⟨h2,H⟩⟩
 refine Z5.mk ?_
 refine ⟨c1,?_⟩
 constructor
 .exact G3 zN zN
 exact H
theorem place (H:Sat g w (Pt pc [zJ b] 269::l)) (n:Int) (hn:XC n):zn 189 #[zI pc,zJ n] w (fun _ w'=>∃c,FE b (OB n) c/\Sat g w' (Pt pc [zJ c] 269::l)):=by
 refine Fc.of Tryz.func189 rfl k_e ?_
 refine Z8.mk (Fc.imp (YS.agp _ zN _) ?_)
 rintro _ w1 ⟨⟨r1,⟨rfl,h1⟩⟩,H'⟩
 refine H.X8 H' ?_
 clear H H'
 intro H
 refine Z8.mk (Fc.imp (YS.need H _ _) ?_)
 clear H
 rintro v' w2 ⟨c1,⟨h2,H⟩⟩
 refine Z5.mk ?_
 refine ⟨c1,?_⟩
 constructor
 .exact G3 zN zN
 exact H
theorem named (H:Sat g w (Pt pc [zJ b] 269::l)) (hT:M9 g) (s:zl) (hs:s.length<=9223372036854775807):zn 175 #[zI pc,.string (bs s)] w (fun _ w'=>∃c,FE b (PM s) c/\Sat g w' (Pt pc [zJ c] 269::l)):=by
 refine Fc.of Tryz.func175 rfl k_e ?_
 refine Z8.mk (Fc.imp (X4.name H zO _ zO) ?_)
 clear H
 rintro _ w1 ⟨t1,⟨e1,⟨rfl,⟨h1,⟨h2,⟨h3,H⟩⟩⟩⟩⟩⟩
 refine Z8.mk (Fc.imp (YS.anj H _) ?_)
 clear H
 rintro v' w2 ⟨c1,⟨h4,H⟩⟩
 refine Z5.mk ?_
 refine ⟨c1,?_⟩
 constructor
 .grind
 exact H
theorem JU {a m:Int}:MA (Jw a m) 2=(if a<=m then 0 else 2):=by
 unfold MA
 by_cases h:a<=m
 .rw [if_pos (by grind [YM]),if_pos h]
 .rw [if_neg (by grind [YM]),if_neg h]
theorem gl1 {x:Int × Bool × Int} {c d:Int} (h1:FE b (Tl x.1) c) (h:x.1≠127) (h2:FE c (MA true 1) d):FE b (Mn x) d:=by
 refine FE.two h1 ?_
 have e:OA x.1 x.2.2=0:=if_pos (.inl h)
 rw [e];exact h2
theorem gl2 {x:Int × Bool × Int} {c d:Int} (hx:XC x.2.2) (h1:FE b (Tl x.1) c) (h:x.1=127) (h2:FE c (MA (Kf x.2.2 (ZO .i64 (ZO .i32 x.2.2))) 1) d):FE b (Mn x) d:=by
 refine FE.two h1 ?_
 have e:OA x.1 x.2.2=MA (Kf x.2.2 (ZO .i64 (ZO .i32 x.2.2))) 1:=by
  unfold OA MA
  by_cases hh:-2147483648<=x.2.2/\x.2.2<=2147483647
  .rw [if_pos (.inr hh),if_pos ((Lf hx).2 hh)]
  .rw [if_neg (fun k=>k.elim (fun k=>k h) hh),if_neg (fun k=>hh ((Lf hx).1 k))]
 rw [e];exact h2
theorem dt1 {x:Int × zl} {c d:Int} (h1:FE b (OB x.1) c) (h2:FE c (MA (Jw x.2.length 64) 2) d):FE b (Mm x) d:=by
 refine FE.two h1 ?_
 rw [JU] at h2;exact h2
theorem Fu {α:Type} {f:α->Int} {m:Int} {xs:List α} {c:Int} (h:FE b (MA (Jw xs.length m) 2) c):fst c (Ym f (xs.drop 0))=fst b (Yn m f xs):=by
 unfold FE at h;subst h
 have:MA (Jw xs.length m) 2=L5 xs.length m:=by
  unfold MA L5
  by_cases h:(xs.length:Int)<=m
  .rw [if_pos (by grind [YM]),if_pos h]
  .rw [if_neg (by grind [YM]),if_neg h]
 rw [this,Vf,lXa];rfl
theorem Ft {α:Type} {f:α->Int} {m:Int} {xs:List α} {c:Int} {i:Nat} (hi:xs.length<=i) (h:fst c (Ym f (xs.drop i))=fst b (Yn m f xs)):FE b (Yn m f xs) c:=by
 rw [lwa hi] at h
 exact (akt c).symm.trans h
theorem Fs {α:Type} {f:α->Int} {m:Int} {xs:List α} {c:Int} {i:Nat} (hc:c≠0) (h:fst c (Ym f (xs.drop i))=fst b (Yn m f xs)):FE b (Yn m f xs) c:=by
 rw [S7 _ hc] at h;exact h
theorem Fq {α:Type} {f:α->Int} {m:Int} {xs:List α} {c d:Int} {i:Nat} {a:α} (hx:xs[i]?=some a) (hd:FE c (f a) d) (h:fst c (Ym f (xs.drop i))=fst b (Yn m f xs)):fst d (Ym f (xs.drop (i+1)))=fst b (Yn m f xs):=by grind [FE,List.drop_eq_getElem_cons,Ym,Vf]
theorem G2 (H:Sat g w (Pt pc [zJ b] 269::l)) (m:Int) (v:Value) (xs:zm) (hx:Z6 g Yx U8 1 v xs):zn 206 #[zI pc,v,zJ m,.func (.func 182) #[zI pc] #[]] w (fun _ w'=>∃c,FE b (Yn m Tl xs) c/\Sat g w' (Pt pc [zJ c] 269::l)):=by
 refine Fc.of Tryz.func206 rfl k_e ?_
 have hbd:=VU.len hx
 refine ZD hx rfl ?_
 refine Z8.mk (Fc.imp (YS.need H _ _) ?_)
 rintro v' w1 ⟨c1,⟨h1,H⟩⟩
 refine ZD hx rfl ?_
 refine YO.rule (α:=Nat × Int) (0,c1) (fun x_=>[(18,zJ x_.1)]) (fun x_ w_=>(x_.1<=xs.length)/\(fst x_.2 (Ym Tl (xs.drop x_.1))=fst b (Yn m Tl xs))/\Sat g w_ ((Pt pc [zJ x_.2] 269::l))) (fun x_=>xs.length-x_.1) ?_ ?_ ?_
 .exact k_a
 .try simp only
  refine ⟨zO,?_⟩
  constructor
  .exact Fu zN
  exact H
 rintro ⟨i,d⟩ f_ w_ ⟨hi,hb,H⟩
 try simp only at hi hb H ⊢
 refine zv (fun c2=>?_) (fun c2=>?_)
 .refine bk ?_
  obtain ⟨x1,hx1⟩:∃x,(xs)[(i)]?=some x:=⟨_,laa zO⟩
  obtain ⟨b1,o1,E1,F1,ZC⟩:=Z6.YQ hx hx1
  refine ZF E1 rfl rfl rfl<|zz (H.X9 F1) 0 zy<|Z9 rfl<|zG H 0 0 zD ?_
  refine zo (fun c3=>?_) (fun c3=>?_)
  .refine Z5.mk ?_
   refine ⟨d,?_⟩
   constructor
   .exact Fs zO hb
   exact H
  refine Z8.mk (Fc.imp (YS.kind H _) ?_)
  rintro V5 w2 ⟨c4,⟨h2,H⟩⟩
  refine ZU zO ?_
  refine WM.mk ((i+1,c4)) (Zr rfl zO (ZV)) ?_ ?_
  .refine ⟨zO,?_⟩
   constructor
   .exact Fq hx1 zN hb
   exact H
  omega
 refine Z5.mk ?_
 refine ⟨d,?_⟩
 constructor
 .exact Ft zO hb
 exact H
theorem aku (H:Sat g w (Pt pc [zJ b] 269::l)) (m:Int) (v:Value) (xs:zm) (hx:Z6 g ZH WV 1 v xs):zn 212 #[zI pc,v,zJ m,.func (.func 176) #[zI pc] #[]] w (fun _ w'=>∃c,FE b (Yn m UA xs) c/\Sat g w' (Pt pc [zJ c] 269::l)):=by
 refine Fc.of Tryz.func212 rfl k_e ?_
 have hbd:=VU.len hx
 refine ZD hx rfl ?_
 refine Z8.mk (Fc.imp (YS.need H _ _) ?_)
 rintro v' w1 ⟨c1,⟨h1,H⟩⟩
 refine ZD hx rfl ?_
 refine YO.rule (α:=Nat × Int) (0,c1) (fun x_=>[(18,zJ x_.1)]) (fun x_ w_=>(x_.1<=xs.length)/\(fst x_.2 (Ym UA (xs.drop x_.1))=fst b (Yn m UA xs))/\Sat g w_ ((Pt pc [zJ x_.2] 269::l))) (fun x_=>xs.length-x_.1) ?_ ?_ ?_
 .exact k_a
 .try simp only
  refine ⟨zO,?_⟩
  constructor
  .exact Fu zN
  exact H
 rintro ⟨i,d⟩ f_ w_ ⟨hi,hb,H⟩
 try simp only at hi hb H ⊢
 refine zv (fun c2=>?_) (fun c2=>?_)
 .refine bk ?_
  obtain ⟨x1,hx1⟩:∃x,(xs)[(i)]?=some x:=⟨_,laa zO⟩
  obtain ⟨b1,o1,E1,F1,ZC⟩:=Z6.YQ hx hx1
  refine ZF E1 rfl rfl rfl<|zz (H.X9 F1) 0 zy<|Z9 rfl<|zG H 0 0 zD ?_
  refine zo (fun c3=>?_) (fun c3=>?_)
  .refine Z5.mk ?_
   refine ⟨d,?_⟩
   constructor
   .exact Fs zO hb
   exact H
  refine Z8.mk (Fc.imp (YS.index H _) ?_)
  rintro V5 w2 ⟨c4,⟨h2,H⟩⟩
  refine ZU zO ?_
  refine WM.mk ((i+1,c4)) (Zr rfl zO (ZV)) ?_ ?_
  .refine ⟨zO,?_⟩
   constructor
   .exact Fq hx1 zN hb
   exact H
  omega
 refine Z5.mk ?_
 refine ⟨d,?_⟩
 constructor
 .exact Ft zO hb
 exact H
theorem sig (H:Sat g w (Pt pc [zJ b] 269::l)) (x:XK) (hx:Wx g x):zn 172 #[zI pc,.agg #[x.vi,x.vo]] w (fun _ w'=>∃c,FE b (I4 x.d) c/\Sat g w' (Pt pc [zJ c] 269::l)):=by
 refine Fc.of Tryz.func172 rfl k_e ?_
 have aij:=hx.Za
 have aik:=hx.out
 refine ZN H<|fun p1 w1 H=>Z9 rfl<|zG H 0 0 zD<|H.Z7 [1]<|fun H=>?_
 refine Z8.mk (Fc.imp (YS.G2 H _ _ _ aij) ?_)
 rintro v' w2 ⟨c1,⟨h1,H⟩⟩
 refine Z9 rfl<|zG H 1 1 zD ?_
 refine Z8.mk (Fc.imp (YS.G2 H _ _ _ aik) ?_)
 rintro V5 w3 ⟨c2,⟨h2,H⟩⟩
 refine Z5.mk ?_
 refine ⟨c2,?_⟩
 constructor
 .exact FE.two zN zN
 exact H.drop 1<|fun H=>H
theorem ail (H:Sat g w (Pt pc [zJ b] 269::l)) (m:Int) (v:Value) (xs:List XK) (hx:Z6 g Oy (Wx g) 2 v xs):zn 171 #[zI pc,v,zJ m,.func (.func 172) #[zI pc] #[]] w (fun _ w'=>∃c,FE b (Yn m (fun x:XK=>I4 x.d) xs) c/\Sat g w' (Pt pc [zJ c] 269::l)):=by
 refine Fc.of Tryz.func171 rfl k_e ?_
 have hbd:=VU.len hx
 refine ZD hx rfl ?_
 refine Z8.mk (Fc.imp (YS.need H _ _) ?_)
 rintro v' w1 ⟨c1,⟨h1,H⟩⟩
 refine ZD hx rfl ?_
 refine YO.rule (α:=Nat × Int) (0,c1) (fun x_=>[(18,zJ x_.1)]) (fun x_ w_=>(x_.1<=xs.length)/\(fst x_.2 (Ym (fun x:XK=>I4 x.d) (xs.drop x_.1))=fst b (Yn m (fun x:XK=>I4 x.d) xs))/\Sat g w_ ((Pt pc [zJ x_.2] 269::l))) (fun x_=>xs.length-x_.1) ?_ ?_ ?_
 .exact k_a
 .try simp only
  refine ⟨zO,?_⟩
  constructor
  .exact Fu zN
  exact H
 rintro ⟨i,d⟩ f_ w_ ⟨hi,hb,H⟩
 try simp only at hi hb H ⊢
 refine zv (fun c2=>?_) (fun c2=>?_)
 .refine bk ?_
  obtain ⟨x1,hx1⟩:∃x,(xs)[(i)]?=some x:=⟨_,laa zO⟩
  obtain ⟨b1,o1,E1,F1,ZC⟩:=Z6.YQ hx hx1
  have PG:=ZC.Za
  have PF:=ZC.out
  refine ZF E1 rfl rfl rfl<|ZK (H.X9 F1) 0 rfl rfl rfl<|ZX H rfl<|fun p1 w2 H=>ZJ H 0 rfl rfl rfl (by grind [Z6.one])<|fun w3 H=>Z9 rfl<|zG H 1 0 zD ?_
  refine zo (fun c3=>?_) (fun c3=>?_)
  .refine Z5.mk ?_
   refine ⟨d,?_⟩
   constructor
   .exact Fs zO hb
   exact H.Z7 [1]<|fun H=>H.drop 1<|fun H=>H
  refine ZK (H.at 0 rfl) 0 rfl rfl rfl<|H.Z7 [1]<|fun H=>?_
  refine Z8.mk (Fc.imp (YS.sig H _ zO) ?_)
  rintro V5 w2 ⟨c4,⟨h2,H⟩⟩
  refine ZU zO ?_
  refine WM.mk ((i+1,c4)) (Zr rfl zO (ZV)) ?_ ?_
  .refine ⟨zO,?_⟩
   constructor
   .exact Fq hx1 zN hb
   exact H.drop 1<|fun H=>H
  omega
 refine Z5.mk ?_
 refine ⟨d,?_⟩
 constructor
 .exact Ft zO hb
 exact H
theorem ank (H:Sat g w (Pt pc [zJ b] 269::Pt q [zI pc] 267::l)) (hT:M9 g) (x:zl × Int) (hx:Rt x):zn 174 #[.agg #[.string (bs x.1),zJ x.2],zI q] w (fun _ w'=>∃c,FE b (PI x) c/\Sat g w' (Pt pc [zJ c] 269::Pt q [zI pc] 267::l)):=by
 refine Fc.of Tryz.func174 rfl k_e ?_
 have agq:=hx.name
 have ahu:=hx.ty
 refine ZN H<|fun p1 w1 H=>zG H 2 0 zD<|Z9 rfl<|zG H 0 0 zD<|H.Z7 [1]<|fun H=>?_
 refine Z8.mk (Fc.imp (YS.named H zO _ zO) ?_)
 rintro v' w2 ⟨c1,⟨h1,H⟩⟩
 refine zG H 2 0 zD<|Z9 rfl<|zG H 1 1 zD ?_
 refine Z8.mk (Fc.imp (YS.index H _) ?_)
 rintro V5 w3 ⟨c2,⟨h2,H⟩⟩
 refine Z5.mk ?_
 refine ⟨c2,?_⟩
 constructor
 .exact FE.two zN zN
 exact H.Z7 [2,1]<|fun H=>H.drop 2<|fun H=>H
theorem aim (H:Sat g w (Pt pc [zJ b] 269::Pt q [zI pc] 267::l)) (hT:M9 g) (m:Int) (v:Value) (xs:List (zl × Int)) (hx:Z6 g TM Rt 2 v xs):zn 173 #[zI pc,v,zJ m,.func (.func 174) #[] #[zI q]] w (fun _ w'=>∃c,FE b (Yn m PI xs) c/\Sat g w' (Pt pc [zJ c] 269::Pt q [zI pc] 267::l)):=by
 refine Fc.of Tryz.func173 rfl k_e ?_
 have hbd:=VU.len hx
 refine ZD hx rfl ?_
 refine Z8.mk (Fc.imp (YS.need H _ _) ?_)
 rintro v' w1 ⟨c1,⟨h1,H⟩⟩
 refine ZD hx rfl ?_
 refine YO.rule (α:=Nat × Int) (0,c1) (fun x_=>[(18,zJ x_.1)]) (fun x_ w_=>(x_.1<=xs.length)/\(fst x_.2 (Ym PI (xs.drop x_.1))=fst b (Yn m PI xs))/\Sat g w_ ((Pt pc [zJ x_.2] 269::Pt q [zI pc] 267::l))) (fun x_=>xs.length-x_.1) ?_ ?_ ?_
 .exact k_a
 .try simp only
  refine ⟨zO,?_⟩
  constructor
  .exact Fu zN
  exact H
 rintro ⟨i,d⟩ f_ w_ ⟨hi,hb,H⟩
 try simp only at hi hb H ⊢
 refine zv (fun c2=>?_) (fun c2=>?_)
 .refine bk ?_
  obtain ⟨x1,hx1⟩:∃x,(xs)[(i)]?=some x:=⟨_,laa zO⟩
  obtain ⟨b1,o1,E1,F1,ZC⟩:=Z6.YQ hx hx1
  have Uz:=ZC.name
  have Xf:=ZC.ty
  refine ZF E1 rfl rfl rfl<|ZK (H.X9 F1) 0 rfl rfl rfl<|ZX H rfl<|fun p1 w2 H=>ZJ H 0 rfl rfl rfl rfl<|fun w3 H=>Z9 rfl<|zG H 1 0 zD ?_
  refine zo (fun c3=>?_) (fun c3=>?_)
  .refine Z5.mk ?_
   refine ⟨d,?_⟩
   constructor
   .exact Fs zO hb
   exact H.Z7 [2,2]<|fun H=>H.drop 2<|fun H=>H
  refine ZK (H.at 0 rfl) 0 rfl rfl rfl<|H.Z7 [2,2]<|fun H=>?_
  refine Z8.mk (Fc.imp (YS.ank H zO _ zO) ?_)
  rintro V5 w2 ⟨c4,⟨h2,H⟩⟩
  refine ZU zO ?_
  refine WM.mk ((i+1,c4)) (Zr rfl zO (ZV)) ?_ ?_
  .refine ⟨zO,?_⟩
   constructor
   .exact Fq hx1 zN hb
   exact H.drop 2<|fun H=>H
  omega
 refine Z5.mk ?_
 refine ⟨d,?_⟩
 constructor
 .exact Ft zO hb
 exact H
theorem anl {b c d:Int} {x:Yt} (h1:FE b (UA x.ty) c) (h2:FE c (Yn 16 Tl x.loc) d) (h:d≠0):FE b (K5 x.d) d:=by
 unfold FE at *
 have:fst d (Yu x.d.body)=d:=S7 _ h
 rw [<-this,h2,h1,Vf,Vf];rfl
theorem anm {b c d e:Int} {x:Yt} (h1:FE b (UA x.ty) c) (h2:FE c (Yn 16 Tl x.loc) d) (h:d=0) (he:e=Yu (x.body.map Y6.d)):FE b (K5 x.d) e:=by
 unfold FE at *
 have:fst d (Yu x.d.body)=e:=by rw [h,Wy];exact he.symm
 rw [<-this,h2,h1,Vf,Vf];rfl
theorem function (H:Sat g w (Pt pc [zJ b] 269::l)) (x:Yt) (hx:Uo g x):zn 178 #[zI pc,.agg #[zJ x.ty,x.vl,x.vb]] w (fun _ w'=>∃c,FE b (K5 x.d) c/\Sat g w' (Pt pc [zJ c] 269::l)):=by
 refine Fc.of Tryz.func178 rfl k_e ?_
 have ahu:=hx.ty
 have ain:=hx.loc
 have agr:=hx.body
 refine ZN H<|fun p1 w1 H=>Z9 rfl<|zG H 0 0 zD<|H.Z7 [1]<|fun H=>?_
 refine Z8.mk (Fc.imp (YS.index H _) ?_)
 rintro v' w2 ⟨c1,⟨h1,H⟩⟩
 refine Z9 rfl<|zG H 1 1 zD ?_
 refine Z8.mk (Fc.imp (YS.G2 H _ _ _ ain) ?_)
 rintro V5 w3 ⟨c2,⟨h2,H⟩⟩
 refine Z9 rfl<|zG H 0 0 zD ?_
 refine zq (fun c3=>?_) (fun c3=>?_)
 .refine Z9 rfl<|zG H 1 2 zD ?_
  refine Z8.mk (Fc.imp (Zn.check H _ _ agr) ?_)
  rintro _ w4 ⟨⟨e1,⟨rfl,h3⟩⟩,H⟩
  refine Z9 rfl<|Yc H 0 rfl rfl rfl rfl<|fun w5 H=>Z5.mk ?_
  refine ⟨e1,?_⟩
  constructor
  .exact anm zN zN zO zN
  exact H.drop 1<|fun H=>H
 refine Z5.mk ?_
 refine ⟨c2,?_⟩
 constructor
 .exact anl zN zN zO
 exact H.drop 1<|fun H=>H
theorem aio (H:Sat g w (Pt pc [zJ b] 269::l)) (m:Int) (v:Value) (xs:List Yt) (hx:Z6 g Ox (Uo g) 3 v xs):zn 177 #[zI pc,v,zJ m,.func (.func 178) #[zI pc] #[]] w (fun _ w'=>∃c,FE b (Yn m (fun x:Yt=>K5 x.d) xs) c/\Sat g w' (Pt pc [zJ c] 269::l)):=by
 refine Fc.of Tryz.func177 rfl k_e ?_
 have hbd:=VU.len hx
 refine ZD hx rfl ?_
 refine Z8.mk (Fc.imp (YS.need H _ _) ?_)
 rintro v' w1 ⟨c1,⟨h1,H⟩⟩
 refine ZD hx rfl ?_
 refine YO.rule (α:=Nat × Int) (0,c1) (fun x_=>[(18,zJ x_.1)]) (fun x_ w_=>(x_.1<=xs.length)/\(fst x_.2 (Ym (fun x:Yt=>K5 x.d) (xs.drop x_.1))=fst b (Yn m (fun x:Yt=>K5 x.d) xs))/\Sat g w_ ((Pt pc [zJ x_.2] 269::l))) (fun x_=>xs.length-x_.1) ?_ ?_ ?_
 .exact k_a
 .try simp only
  refine ⟨zO,?_⟩
  constructor
  .exact Fu zN
  exact H
 rintro ⟨i,d⟩ f_ w_ ⟨hi,hb,H⟩
 try simp only at hi hb H ⊢
 refine zv (fun c2=>?_) (fun c2=>?_)
 .refine bk ?_
  obtain ⟨x1,hx1⟩:∃x,(xs)[(i)]?=some x:=⟨_,laa zO⟩
  obtain ⟨b1,o1,E1,F1,ZC⟩:=Z6.YQ hx hx1
  have Xf:=ZC.ty
  have Zi:=ZC.loc
  have Zo:=ZC.body
  refine ZF E1 rfl rfl rfl<|ZK (H.X9 F1) 0 rfl rfl rfl<|ZX H rfl<|fun p1 w2 H=>ZJ H 0 rfl rfl rfl (by simp only [List.all_cons,List.all_nil,Z6.one Zo,Z6.one Zi,Z6.one hx];rfl)<|fun w3 H=>Z9 rfl<|zG H 1 0 zD ?_
  refine zo (fun c3=>?_) (fun c3=>?_)
  .refine Z5.mk ?_
   refine ⟨d,?_⟩
   constructor
   .exact Fs zO hb
   exact H.Z7 [1]<|fun H=>H.drop 1<|fun H=>H
  refine ZK (H.at 0 rfl) 0 rfl rfl rfl<|H.Z7 [1]<|fun H=>?_
  refine Z8.mk (Fc.imp (YS.function H _ zO) ?_)
  rintro V5 w2 ⟨c4,⟨h2,H⟩⟩
  refine ZU zO ?_
  refine WM.mk ((i+1,c4)) (Zr rfl zO (ZV)) ?_ ?_
  .refine ⟨zO,?_⟩
   constructor
   .exact Fq hx1 zN hb
   exact H.drop 1<|fun H=>H
  omega
 refine Z5.mk ?_
 refine ⟨d,?_⟩
 constructor
 .exact Ft zO hb
 exact H
theorem ann (H:Sat g w (Pt pc [zJ b] 269::Pt q [zI pc] 267::l)) (x:Int × Bool × Int) (hx:K4 x):zn 181 #[.agg #[.int .u8 x.1,.bool x.2.1,zJ x.2.2],zI q] w (fun _ w'=>∃c,FE b (Mn x) c/\Sat g w' (Pt pc [zJ c] 269::Pt q [zI pc] 267::l)):=by
 refine Fc.of Tryz.func181 rfl k_e ?_
 have amE:=hx.kind
 have aeG:=hx.start
 refine ZN H<|fun p1 w1 H=>zG H 2 0 zD<|Z9 rfl<|zG H 0 0 zD<|H.Z7 [1]<|fun H=>?_
 refine Z8.mk (Fc.imp (YS.kind H _) ?_)
 rintro v' w2 ⟨c1,⟨h1,H⟩⟩
 refine zG H 2 0 zD<|Z9 rfl<|zG H 1 0 zD ?_
 refine br (fun c2=>?_) (fun c2=>?_)
 .replace c2:=YI (c2)
  refine Z8.mk (Fc.imp (YS.need H _ _) ?_)
  rintro V5 w3 ⟨c3,⟨h2,H⟩⟩
  refine Z5.mk ?_
  refine ⟨c3,?_⟩
  constructor
  .exact gl1 h1 zN zN
  exact H.Z7 [2,1]<|fun H=>H.drop 2<|fun H=>H
 replace c2:=YH (c2)
 refine Z9 rfl<|zG H 1 2 zD<|Z9 rfl<|zG H 1 2 zD<|Zt rfl rfl<|Zt rfl rfl ?_
 refine Z8.mk (Fc.imp (YS.need H _ _) ?_)
 rintro V5 w3 ⟨c3,⟨h2,H⟩⟩
 refine Z5.mk ?_
 refine ⟨c3,?_⟩
 constructor
 .exact gl2 aeG h1 zO zN
 exact H.Z7 [2,1]<|fun H=>H.drop 2<|fun H=>H
theorem aeH (H:Sat g w (Pt pc [zJ b] 269::Pt q [zI pc] 267::l)) (m:Int) (v:Value) (xs:List (Int × Bool × Int)) (hx:Z6 g N8 K4 3 v xs):zn 180 #[zI pc,v,zJ m,.func (.func 181) #[] #[zI q]] w (fun _ w'=>∃c,FE b (Yn m Mn xs) c/\Sat g w' (Pt pc [zJ c] 269::Pt q [zI pc] 267::l)):=by
 refine Fc.of Tryz.func180 rfl k_e ?_
 have hbd:=VU.len hx
 refine ZD hx rfl ?_
 refine Z8.mk (Fc.imp (YS.need H _ _) ?_)
 rintro v' w1 ⟨c1,⟨h1,H⟩⟩
 refine ZD hx rfl ?_
 refine YO.rule (α:=Nat × Int) (0,c1) (fun x_=>[(18,zJ x_.1)]) (fun x_ w_=>(x_.1<=xs.length)/\(fst x_.2 (Ym Mn (xs.drop x_.1))=fst b (Yn m Mn xs))/\Sat g w_ ((Pt pc [zJ x_.2] 269::Pt q [zI pc] 267::l))) (fun x_=>xs.length-x_.1) ?_ ?_ ?_
 .exact k_a
 .try simp only
  refine ⟨zO,?_⟩
  constructor
  .exact Fu zN
  exact H
 rintro ⟨i,d⟩ f_ w_ ⟨hi,hb,H⟩
 try simp only at hi hb H ⊢
 refine zv (fun c2=>?_) (fun c2=>?_)
 .refine bk ?_
  obtain ⟨x1,hx1⟩:∃x,(xs)[(i)]?=some x:=⟨_,laa zO⟩
  obtain ⟨b1,o1,E1,F1,ZC⟩:=Z6.YQ hx hx1
  have QU:=ZC.kind
  have R4:=ZC.start
  refine ZF E1 rfl rfl rfl<|ZK (H.X9 F1) 0 rfl rfl rfl<|ZX H rfl<|fun p1 w2 H=>ZJ H 0 rfl rfl rfl rfl<|fun w3 H=>Z9 rfl<|zG H 1 0 zD ?_
  refine zo (fun c3=>?_) (fun c3=>?_)
  .refine Z5.mk ?_
   refine ⟨d,?_⟩
   constructor
   .exact Fs zO hb
   exact H.Z7 [2,2]<|fun H=>H.drop 2<|fun H=>H
  refine ZK (H.at 0 rfl) 0 rfl rfl rfl<|H.Z7 [2,2]<|fun H=>?_
  refine Z8.mk (Fc.imp (YS.ann H _ zO) ?_)
  rintro V5 w2 ⟨c4,⟨h2,H⟩⟩
  refine ZU zO ?_
  refine WM.mk ((i+1,c4)) (Zr rfl zO (ZV)) ?_ ?_
  .refine ⟨zO,?_⟩
   constructor
   .exact Fq hx1 zN hb
   exact H.drop 2<|fun H=>H
  omega
 refine Z5.mk ?_
 refine ⟨d,?_⟩
 constructor
 .exact Ft zO hb
 exact H
theorem shown (H:Sat g w (Pt pc [zJ b] 269::l)) (hT:M9 g) (x:zl × Int) (hx:Rt x):zn 184 #[zI pc,.agg #[.string (bs x.1),zJ x.2]] w (fun _ w'=>∃c,FE b (PI x) c/\Sat g w' (Pt pc [zJ c] 269::l)):=by
 refine Fc.of Tryz.func184 rfl k_e ?_
 have agq:=hx.name
 have ahu:=hx.ty
 refine ZN H<|fun p1 w1 H=>Z9 rfl<|zG H 0 0 zD<|H.Z7 [1]<|fun H=>?_
 refine Z8.mk (Fc.imp (YS.named H zO _ zO) ?_)
 rintro v' w2 ⟨c1,⟨h1,H⟩⟩
 refine Z9 rfl<|zG H 1 1 zD ?_
 refine Z8.mk (Fc.imp (YS.index H _) ?_)
 rintro V5 w3 ⟨c2,⟨h2,H⟩⟩
 refine Z5.mk ?_
 refine ⟨c2,?_⟩
 constructor
 .exact FE.two zN zN
 exact H.drop 1<|fun H=>H
theorem aeI (H:Sat g w (Pt pc [zJ b] 269::l)) (hT:M9 g) (m:Int) (v:Value) (xs:List (zl × Int)) (hx:Z6 g TM Rt 2 v xs):zn 183 #[zI pc,v,zJ m,.func (.func 184) #[zI pc] #[]] w (fun _ w'=>∃c,FE b (Yn m PI xs) c/\Sat g w' (Pt pc [zJ c] 269::l)):=by
 refine Fc.of Tryz.func183 rfl k_e ?_
 have hbd:=VU.len hx
 refine ZD hx rfl ?_
 refine Z8.mk (Fc.imp (YS.need H _ _) ?_)
 rintro v' w1 ⟨c1,⟨h1,H⟩⟩
 refine ZD hx rfl ?_
 refine YO.rule (α:=Nat × Int) (0,c1) (fun x_=>[(18,zJ x_.1)]) (fun x_ w_=>(x_.1<=xs.length)/\(fst x_.2 (Ym PI (xs.drop x_.1))=fst b (Yn m PI xs))/\Sat g w_ ((Pt pc [zJ x_.2] 269::l))) (fun x_=>xs.length-x_.1) ?_ ?_ ?_
 .exact k_a
 .try simp only
  refine ⟨zO,?_⟩
  constructor
  .exact Fu zN
  exact H
 rintro ⟨i,d⟩ f_ w_ ⟨hi,hb,H⟩
 try simp only at hi hb H ⊢
 refine zv (fun c2=>?_) (fun c2=>?_)
 .refine bk ?_
  obtain ⟨x1,hx1⟩:∃x,(xs)[(i)]?=some x:=⟨_,laa zO⟩
  obtain ⟨b1,o1,E1,F1,ZC⟩:=Z6.YQ hx hx1
  have Uz:=ZC.name
  have Xf:=ZC.ty
  refine ZF E1 rfl rfl rfl<|ZK (H.X9 F1) 0 rfl rfl rfl<|ZX H rfl<|fun p1 w2 H=>ZJ H 0 rfl rfl rfl rfl<|fun w3 H=>Z9 rfl<|zG H 1 0 zD ?_
  refine zo (fun c3=>?_) (fun c3=>?_)
  .refine Z5.mk ?_
   refine ⟨d,?_⟩
   constructor
   .exact Fs zO hb
   exact H.Z7 [1]<|fun H=>H.drop 1<|fun H=>H
  refine ZK (H.at 0 rfl) 0 rfl rfl rfl<|H.Z7 [1]<|fun H=>?_
  refine Z8.mk (Fc.imp (YS.shown H zO _ zO) ?_)
  rintro V5 w2 ⟨c4,⟨h2,H⟩⟩
  refine ZU zO ?_
  refine WM.mk ((i+1,c4)) (Zr rfl zO (ZV)) ?_ ?_
  .refine ⟨zO,?_⟩
   constructor
   .exact Fq hx1 zN hb
   exact H.drop 1<|fun H=>H
  omega
 refine Z5.mk ?_
 refine ⟨d,?_⟩
 constructor
 .exact Ft zO hb
 exact H
theorem elem (H:Sat g w (Pt pc [zJ b] 269::l)) (x:R5) (hx:Ml g x):zn 186 #[zI pc,.agg #[zJ x.pl,x.vf]] w (fun _ w'=>∃c,FE b (Fw x.d) c/\Sat g w' (Pt pc [zJ c] 269::l)):=by
 refine Fc.of Tryz.func186 rfl k_e ?_
 have Ij:=hx.pl
 have Qz:=hx.fs
 refine ZN H<|fun p1 w1 H=>Z9 rfl<|zG H 0 0 zD<|H.Z7 [1]<|fun H=>?_
 refine Z8.mk (Fc.imp (YS.place H _ zN) ?_)
 rintro v' w2 ⟨c1,⟨h1,H⟩⟩
 refine Z9 rfl<|zG H 1 1 zD ?_
 refine Z8.mk (Fc.imp (YS.aku H _ _ _ Qz) ?_)
 rintro V5 w3 ⟨c2,⟨h2,H⟩⟩
 refine Z5.mk ?_
 refine ⟨c2,?_⟩
 constructor
 .exact FE.two zN zN
 exact H.drop 1<|fun H=>H
theorem aeJ (H:Sat g w (Pt pc [zJ b] 269::l)) (m:Int) (v:Value) (xs:List R5) (hx:Z6 g Fv (Ml g) 2 v xs):zn 185 #[zI pc,v,zJ m,.func (.func 186) #[zI pc] #[]] w (fun _ w'=>∃c,FE b (Yn m (fun x:R5=>Fw x.d) xs) c/\Sat g w' (Pt pc [zJ c] 269::l)):=by
 refine Fc.of Tryz.func185 rfl k_e ?_
 have hbd:=VU.len hx
 refine ZD hx rfl ?_
 refine Z8.mk (Fc.imp (YS.need H _ _) ?_)
 rintro v' w1 ⟨c1,⟨h1,H⟩⟩
 refine ZD hx rfl ?_
 refine YO.rule (α:=Nat × Int) (0,c1) (fun x_=>[(18,zJ x_.1)]) (fun x_ w_=>(x_.1<=xs.length)/\(fst x_.2 (Ym (fun x:R5=>Fw x.d) (xs.drop x_.1))=fst b (Yn m (fun x:R5=>Fw x.d) xs))/\Sat g w_ ((Pt pc [zJ x_.2] 269::l))) (fun x_=>xs.length-x_.1) ?_ ?_ ?_
 .exact k_a
 .try simp only
  refine ⟨zO,?_⟩
  constructor
  .exact Fu zN
  exact H
 rintro ⟨i,d⟩ f_ w_ ⟨hi,hb,H⟩
 try simp only at hi hb H ⊢
 refine zv (fun c2=>?_) (fun c2=>?_)
 .refine bk ?_
  obtain ⟨x1,hx1⟩:∃x,(xs)[(i)]?=some x:=⟨_,laa zO⟩
  obtain ⟨b1,o1,E1,F1,ZC⟩:=Z6.YQ hx hx1
  have PE:=ZC.pl
  have VH:=ZC.fs
  refine ZF E1 rfl rfl rfl<|ZK (H.X9 F1) 0 rfl rfl rfl<|ZX H rfl<|fun p1 w2 H=>ZJ H 0 rfl rfl rfl (by simp only [List.all_cons,List.all_nil,Z6.one VH,Z6.one hx];rfl)<|fun w3 H=>Z9 rfl<|zG H 1 0 zD ?_
  refine zo (fun c3=>?_) (fun c3=>?_)
  .refine Z5.mk ?_
   refine ⟨d,?_⟩
   constructor
   .exact Fs zO hb
   exact H.Z7 [1]<|fun H=>H.drop 1<|fun H=>H
  refine ZK (H.at 0 rfl) 0 rfl rfl rfl<|H.Z7 [1]<|fun H=>?_
  refine Z8.mk (Fc.imp (YS.elem H _ zO) ?_)
  rintro V5 w2 ⟨c4,⟨h2,H⟩⟩
  refine ZU zO ?_
  refine WM.mk ((i+1,c4)) (Zr rfl zO (ZV)) ?_ ?_
  .refine ⟨zO,?_⟩
   constructor
   .exact Fq hx1 zN hb
   exact H.drop 1<|fun H=>H
  omega
 refine Z5.mk ?_
 refine ⟨d,?_⟩
 constructor
 .exact Ft zO hb
 exact H
theorem ano (H:Sat g w (Pt pc [zJ b] 269::Pt q [zI pc] 267::l)) (x:Int × zl) (hx:I3 x):zn 188 #[.agg #[zJ x.1,.string (bs x.2)],zI q] w (fun _ w'=>∃c,FE b (Mm x) c/\Sat g w' (Pt pc [zJ c] 269::Pt q [zI pc] 267::l)):=by
 refine Fc.of Tryz.func188 rfl k_e ?_
 have Ij:=hx.pl
 have akv:=hx.bytes
 refine ZN H<|fun p1 w1 H=>zG H 2 0 zD<|Z9 rfl<|zG H 0 0 zD<|H.Z7 [1]<|fun H=>?_
 refine Z8.mk (Fc.imp (YS.place H _ zN) ?_)
 rintro v' w2 ⟨c1,⟨h1,H⟩⟩
 refine zG H 2 0 zD<|Z9 rfl<|zG H 1 1 zD<|XE rfl ?_
 refine Z8.mk (Fc.imp (YS.need H _ _) ?_)
 rintro V5 w3 ⟨c2,⟨h2,H⟩⟩
 refine Z5.mk ?_
 refine ⟨c2,?_⟩
 constructor
 .exact dt1 h1 zN
 exact H.Z7 [2,1]<|fun H=>H.drop 2<|fun H=>H
theorem aeK (H:Sat g w (Pt pc [zJ b] 269::Pt q [zI pc] 267::l)) (m:Int) (v:Value) (xs:List (Int × zl)) (hx:Z6 g HO I3 2 v xs):zn 187 #[zI pc,v,zJ m,.func (.func 188) #[] #[zI q]] w (fun _ w'=>∃c,FE b (Yn m Mm xs) c/\Sat g w' (Pt pc [zJ c] 269::Pt q [zI pc] 267::l)):=by
 refine Fc.of Tryz.func187 rfl k_e ?_
 have hbd:=VU.len hx
 refine ZD hx rfl ?_
 refine Z8.mk (Fc.imp (YS.need H _ _) ?_)
 rintro v' w1 ⟨c1,⟨h1,H⟩⟩
 refine ZD hx rfl ?_
 refine YO.rule (α:=Nat × Int) (0,c1) (fun x_=>[(18,zJ x_.1)]) (fun x_ w_=>(x_.1<=xs.length)/\(fst x_.2 (Ym Mm (xs.drop x_.1))=fst b (Yn m Mm xs))/\Sat g w_ ((Pt pc [zJ x_.2] 269::Pt q [zI pc] 267::l))) (fun x_=>xs.length-x_.1) ?_ ?_ ?_
 .exact k_a
 .try simp only
  refine ⟨zO,?_⟩
  constructor
  .exact Fu zN
  exact H
 rintro ⟨i,d⟩ f_ w_ ⟨hi,hb,H⟩
 try simp only at hi hb H ⊢
 refine zv (fun c2=>?_) (fun c2=>?_)
 .refine bk ?_
  obtain ⟨x1,hx1⟩:∃x,(xs)[(i)]?=some x:=⟨_,laa zO⟩
  obtain ⟨b1,o1,E1,F1,ZC⟩:=Z6.YQ hx hx1
  have PE:=ZC.pl
  have acp:=ZC.bytes
  refine ZF E1 rfl rfl rfl<|ZK (H.X9 F1) 0 rfl rfl rfl<|ZX H rfl<|fun p1 w2 H=>ZJ H 0 rfl rfl rfl rfl<|fun w3 H=>Z9 rfl<|zG H 1 0 zD ?_
  refine zo (fun c3=>?_) (fun c3=>?_)
  .refine Z5.mk ?_
   refine ⟨d,?_⟩
   constructor
   .exact Fs zO hb
   exact H.Z7 [2,2]<|fun H=>H.drop 2<|fun H=>H
  refine ZK (H.at 0 rfl) 0 rfl rfl rfl<|H.Z7 [2,2]<|fun H=>?_
  refine Z8.mk (Fc.imp (YS.ano H _ zO) ?_)
  rintro V5 w2 ⟨c4,⟨h2,H⟩⟩
  refine ZU zO ?_
  refine WM.mk ((i+1,c4)) (Zr rfl zO (ZV)) ?_ ?_
  .refine ⟨zO,?_⟩
   constructor
   .exact Fq hx1 zN hb
   exact H.drop 2<|fun H=>H
  omega
 refine Z5.mk ?_
 refine ⟨d,?_⟩
 constructor
 .exact Ft zO hb
 exact H
end
end Go.Proofs.YtakpnepblgfknaaGreatDoor.YS
namespace Go.Proofs.YtakpnepblgfknaaGreatDoor.YS
open Go Y2 Go.RowKit
open YZ Zn X4
section
variable {g:ZB} {w:World} {l:List As}
theorem ahv {a:Int}:MA (Jw 0 a) 1=CQ 0 a:=by
 unfold MA CQ
 by_cases h:0<=a
 .rw [if_pos (by grind [YM]),if_pos h]
 .rw [if_neg (by grind [YM]),if_neg h]
theorem akw {a m:Int} (h0:0<=a):MA (Jw a m) 1=JV a m:=by
 unfold MA JV
 by_cases h:a<=m
 .rw [if_pos (by grind [YM]),if_pos ⟨h0,h⟩]
 .rw [if_neg (by grind [YM]),if_neg (fun k=>h k.2)]
theorem akx {a m:Int} (h0:a<0):MA false 1=JV a m:=by grind [MA,JV]
theorem acJ {m:Zg} {c1 c2 c3 c4 c5 c6 c7 c8 c9 c10 c11 c12 e4 e5 e6 e7:Int} (h1:FE 0 (Yn 16 (fun x=>I4 x.d) m.types) c1) (h2:FE c1 (Yn 16 PI m.Zz) c2) (h3:FE c2 (Yn 16 (fun x=>K5 x.d) m.funcs) c3)
  (h4:FE c3 e4 c4) (h5:FE c4 e5 c5) (h6:FE c5 e6 c6) (h7:FE c6 e7 c7) (h8:FE c7 (Yn 8 Mn m.globals) c8) (h9:FE c8 (Yn 8 PI m.VV) c9) (h10:FE c9 (UA m.start) c10)
  (h11:FE c10 (Yn 4 (fun x=>Fw x.d) m.elems) c11) (h12:FE c11 (Yn 4 Mm m.data) c12) (k4:e4=CQ 0 m.table) (k5:e5=CP m.table 16) (k6:e6=JV m.pages m.most) (k7:e7=CP m.most 8):c12=Oz m.d:=by
 subst k4 k5 k6 k7
 unfold FE at *
 subst h1 h2 h3 h4 h5 h6 h7 h8 h9 h10 h11 h12
 simp only [Vf,Wy]
 unfold Oz
 simp only [Zg.d,aaE]
theorem check (H:Sat g w l) (hT:M9 g) (m:Zg) (hm:Xu g m):zn 128 #[.agg (zL m []).toArray] w (fun v w'=>(∃e,v=zJ e/\e=Oz m.d)/\Sat g w' l):=by
 refine Fc.of Tryz.func128 rfl k_e ?_
 have ZQ:=hm.types
 have Zv:=hm.Zz
 have ZP:=hm.funcs
 have Zh:=hm.globals
 have XD:=hm.VV
 have XO:=hm.elems
 have VG:=hm.data
 refine ZN H<|fun p1 w1 H=>Zq rfl rfl rfl<|ZN H<|fun p2 w2 H=>ZX H rfl<|fun p3 w1 H=>Yc H 0 rfl rfl rfl rfl<|fun w2 H=>zG H 0 0 zD<|Z9 rfl<|zG H 2 0 zD<|zG H 0 0 zD<|H.Z7 [1]<|fun H=>?_
 refine Z8.mk (Fc.imp (YS.ail H _ _ _ ZQ) ?_)
 rintro v' w1 ⟨c1,⟨h1,H⟩⟩
 refine zG H 1 0 zD<|Z9 rfl<|zG H 2 1 zD ?_
 refine Z8.mk (Fc.imp (YS.aim H zO _ _ _ Zv) ?_)
 rintro V5 w3 ⟨c2,⟨h2,H⟩⟩
 refine zG H 1 0 zD<|Z9 rfl<|zG H 2 2 zD<|zG H 1 0 zD ?_
 refine Z8.mk (Fc.imp (YS.aio H _ _ _ ZP) ?_)
 rintro I1 w4 ⟨c3,⟨h3,H⟩⟩
 refine zG H 1 0 zD<|Z9 rfl<|zG H 2 3 zD ?_
 refine Z8.mk (Fc.imp (YS.need H _ _) ?_)
 rintro L4 w5 ⟨c4,⟨h4,H⟩⟩
 refine zG H 1 0 zD<|Z9 rfl<|zG H 2 3 zD ?_
 refine Z8.mk (Fc.imp (YS.need H _ _) ?_)
 rintro CO w6 ⟨c5,⟨h5,H⟩⟩
 refine zG H 1 0 zD<|Z9 rfl<|zG H 2 4 zD ?_
 refine br (fun c6=>?_) (fun c6=>?_)
 .replace c6:=Xt (c6)
  refine Z9 rfl<|zG H 2 4 zD<|Z9 rfl<|zG H 2 5 zD ?_
  refine Z8.mk (Fc.imp (YS.need H _ _) ?_)
  rintro ve' w7 ⟨c7,⟨h6,H⟩⟩
  refine zG H 1 0 zD<|Z9 rfl<|zG H 2 5 zD ?_
  refine Z8.mk (Fc.imp (YS.need H _ _) ?_)
  rintro vf' w8 ⟨c8,⟨h7,H⟩⟩
  refine zG H 1 0 zD<|Z9 rfl<|zG H 2 6 zD ?_
  refine Z8.mk (Fc.imp (YS.aeH H _ _ _ Zh) ?_)
  rintro vg' w9 ⟨c9,⟨h8,H⟩⟩
  refine zG H 1 0 zD<|Z9 rfl<|zG H 2 7 zD<|zG H 1 0 zD ?_
  refine Z8.mk (Fc.imp (YS.aeI H zO _ _ _ XD) ?_)
  rintro vh' Bo ⟨c10,⟨h9,H⟩⟩
  refine zG H 1 0 zD<|Z9 rfl<|zG H 2 8 zD ?_
  refine Z8.mk (Fc.imp (YS.index H _) ?_)
  rintro v' Bn ⟨c11,⟨h10,H⟩⟩
  refine zG H 1 0 zD<|Z9 rfl<|zG H 2 9 zD<|zG H 1 0 zD ?_
  refine Z8.mk (Fc.imp (YS.aeJ H _ _ _ XO) ?_)
  rintro v' AL ⟨c12,⟨h11,H⟩⟩
  refine zG H 1 0 zD<|Z9 rfl<|zG H 2 10 zD ?_
  refine Z8.mk (Fc.imp (YS.aeK H _ _ _ VG) ?_)
  rintro v' w13 ⟨c13,⟨h12,H⟩⟩
  refine zG H 1 0 zD<|Z9 rfl<|zG H 0 0 zD<|Z5.mk ?_
  constructor
  .refine ⟨c13,?_⟩
   constructor
   .simp
   exact acJ h1 h2 h3 h4 h5 h6 h7 h8 h9 h10 h11 h12 ahv JU (akw zO) JU
  exact zw H [2,1,0]<|fun H=>H
 replace c6:=Xs (c6)
 refine Z8.mk (Fc.imp (YS.need H _ _) ?_)
 rintro ve' w7 ⟨c7,⟨h6,H⟩⟩
 refine zG H 1 0 zD<|Z9 rfl<|zG H 2 5 zD ?_
 refine Z8.mk (Fc.imp (YS.need H _ _) ?_)
 rintro vf' w8 ⟨c8,⟨h7,H⟩⟩
 refine zG H 1 0 zD<|Z9 rfl<|zG H 2 6 zD ?_
 refine Z8.mk (Fc.imp (YS.aeH H _ _ _ Zh) ?_)
 rintro vg' w9 ⟨c9,⟨h8,H⟩⟩
 refine zG H 1 0 zD<|Z9 rfl<|zG H 2 7 zD<|zG H 1 0 zD ?_
 refine Z8.mk (Fc.imp (YS.aeI H zO _ _ _ XD) ?_)
 rintro vh' Bo ⟨c10,⟨h9,H⟩⟩
 refine zG H 1 0 zD<|Z9 rfl<|zG H 2 8 zD ?_
 refine Z8.mk (Fc.imp (YS.index H _) ?_)
 rintro v' Bn ⟨c11,⟨h10,H⟩⟩
 refine zG H 1 0 zD<|Z9 rfl<|zG H 2 9 zD<|zG H 1 0 zD ?_
 refine Z8.mk (Fc.imp (YS.aeJ H _ _ _ XO) ?_)
 rintro v' AL ⟨c12,⟨h11,H⟩⟩
 refine zG H 1 0 zD<|Z9 rfl<|zG H 2 10 zD ?_
 refine Z8.mk (Fc.imp (YS.aeK H _ _ _ VG) ?_)
 rintro v' w13 ⟨c13,⟨h12,H⟩⟩
 refine zG H 1 0 zD<|Z9 rfl<|zG H 0 0 zD<|Z5.mk ?_
 constructor
 .refine ⟨c13,?_⟩
  constructor
  .simp
  exact acJ h1 h2 h3 h4 h5 h6 h7 h8 h9 h10 h11 h12 ahv JU (akx zO) JU
 exact zw H [2,1,0]<|fun H=>H
end
end Go.Proofs.YtakpnepblgfknaaGreatDoor.YS
namespace Go.Proofs.YtakpnepblgfknaaGreatDoor.Valid
open Go Y2 Go.RowKit
open YZ Zn X4 YS
structure Yb where
 types:List Xv
 Zz:zm
 JT:zm
 globals:List (Int × Bool × Int)
 table:Int
 most:Int
def ZE (m:YP):Yb:=⟨m.types,m.Zz.map (·.2),m.funcs.map (·.ty),m.globals,m.table,m.most⟩
def Qo (E:Yb) (n:Int):Option Int:=if n<0 then none else if n<E.Zz.length then E.Zz[n.toNat]? else E.JT[n.toNat-E.Zz.length]?
def Xp (E:Yb) (n:Int):Option Xv:=(Qo E n).bind fun k=>E.types[k.toNat]?
structure ZG where
 op:Int
 kind:Int
 base:Nat
 dead:Bool
 under:Bool
def pz:ZG:=⟨0,0,0,false,false⟩
structure Ck where
 stack:zm
 Zm:List ZG
 bad:Int
def Yw (c:Ck) (e:Int):Ck:=if c.bad=0 then { c with bad:=e } else c
def Xl (c:Ck) (k:Int):Ck:=if k≠64 then { c with stack:=c.stack++[k] } else c
def Ww (c:Ck):ZG:=c.Zm.getD (c.Zm.length-1) pz
def Y8 (c:Ck) (want:Int):Ck × Int :=
 if want=64 then (c,64)
 else if c.stack.length=(Ww c).base then (if (Ww c).dead=true then c else Yw c 10,want)
 else
  let k:=c.stack.getD (c.stack.length-1) 0
  let c1:Ck:={ c with stack:=c.stack.take (c.stack.length-1) }
  if k=0 then (c1,want) else if want≠0/\k≠want then (Yw c1 10,k) else (c1,k)
def Xo (c:Ck):zm->Ck
 | []=>c
 | k::r=>(Y8 (Xo c r) k).1
def WQ (c:Ck):zm->Ck
 | []=>c
 | k::r=>WQ (Xl c k) r
def Uy (c:Ck):Ck:={ c with stack:=c.stack.take (Ww c).base,Zm:=c.Zm.set (c.Zm.length-1) { Ww c with dead:=true } }
def YJ (c:Ck) (n:Int):Ck × ZG:=if c.Zm.length<=n then (Yw c 8,pz) else (c,c.Zm.getD (c.Zm.length-1-n.toNat) pz)
def Zf (p:ZG):Int:=if p.op=3 then 64 else p.kind
def TL (c:Ck):Bool:=if c.Zm=[] then false else (Ww c).dead || (Ww c).under
def VP (c:Ck) (op kind:Int):Ck:={ c with Zm:=c.Zm++[⟨op,kind,c.stack.length,false,TL c⟩] }
def YL (c:Ck):Ck:=if (Y8 c (Ww c).kind).1.stack.length≠(Ww c).base then Yw (Y8 c (Ww c).kind).1 10 else (Y8 c (Ww c).kind).1
def Ud (c:Ck) (a:Int):Ck:=if (YJ c a).1.bad=0 then (Y8 (YJ c a).1 (Zf (YJ c a).2)).1 else (YJ c a).1
def Xr (k:Int):zm->Ck × Bool->Ck × Bool
 | [],s=>s
 | n::r,s=>Xr k r ((YJ s.1 n).1,decide (Zf (YJ s.1 n).2=k) && s.2)
def XN (c:Ck) (a:Int) (tt:zm):Ck :=
 let k:=Zf (YJ c a).2
 let s:=Xr k tt ((YJ c a).1,true)
 if s.1.bad≠0 then s.1 else (Y8 (Y8 (if s.2=true then s.1 else Yw s.1 10) 127).1 k).1
def Ve (c:Ck):Ck :=
 let p:=Ww c
 let c1:=YL c
 if c1.bad=0 then { c1 with Zm:=c1.Zm.take (c1.Zm.length-1)++[⟨5,p.kind,p.base,false,p.under⟩] } else c1
def S6 (c:Ck):Ck :=
 let p:=Ww c
 let c1:=YL c
 let c2:=if p.op=4/\p.kind≠64 then Yw c1 10 else c1
 if c2.bad=0 then Xl { c2 with Zm:=c2.Zm.take (c2.Zm.length-1) } p.kind else c2
def VO (c:Ck) (a:Int):Ck :=
 let k:=Zf (YJ c a).2
 let c1:=(YJ c a).1
 if c1.bad=0 then Xl (Y8 (Y8 c1 127).1 k).1 k else c1
def ZA (c:Ck) (x:ZW):Ck :=
 if x.op=0 then Uy c
 else if x.op=2\/x.op=3 then VP c x.op x.a
 else if x.op=4 then VP (Y8 c 127).1 x.op x.a
 else if x.op=5 then Ve c
 else if x.op=11 then S6 c
 else if x.op=12 then Uy (Ud c x.a)
 else if x.op=13 then VO c x.a
 else if x.op=15 then Uy (Y8 c (c.Zm.getD 0 pz).kind).1
 else if x.op=14 then Uy (XN c x.a x.to)
 else c
def Wj (E:Yb) (c:Ck) (x:ZW):Ck :=
 if x.op=16 then
  match Xp E x.a with
  | none=>Yw c 8
  | some t=>WQ (Xo c t.Za) t.out
 else if E.table=0\/(E.types.length:Int)<=x.a then Yw c 8
 else
  let t:=E.types.getD x.a.toNat ⟨[],[]⟩
  WQ (Xo (Y8 c 127).1 t.Za) t.out
def Xe (c:Ck):Ck :=
 let s:=Y8 (Y8 c 127).1 0
 let u:=Y8 s.1 s.2
 Xl u.1 u.2
def X0 (E:Yb) (L:zm) (c:Ck) (x:ZW):Ck :=
 if x.op<35 then
  if (L.length:Int)<=x.a then Yw c 8
  else
   let k:=L.getD x.a.toNat 0
   let c1:=if x.op≠32 then (Y8 c k).1 else c
   if x.op≠33 then Xl c1 k else c1
 else if (E.globals.length:Int)<=x.a then Yw c 8
 else
  let g:=E.globals.getD x.a.toNat (0,false,0)
  if x.op=35 then Xl c g.1
  else (Y8 (if g.2.1=true then c else Yw c 10) g.1).1
def TK (o:Int):Int:=if o=40\/o=44\/o=45\/o=46\/o=47\/o=54\/o=58\/o=59 then 127 else 126
def Xk (o:Int):zm × zm × Bool :=
 if (XV o).2.2=true then ((XV o).1,[(XV o).2.1],true)
 else if 0<wid o/\o<54 then ([127],[TK o],true)
 else if 0<wid o then ([127,TK o],[],true)
 else if o=63 then ([],[127],true)
 else if o=64 then ([127],[127],true)
 else if o=65 then ([],[127],true)
 else if o=66 then ([],[126],true)
 else ([],[],false)
def Fp (a:Int):Int:=if a=0 then 1 else if a=1 then 2 else if a=2 then 4 else 8
def WO (E:Yb) (c:Ck) (x:ZW):Ck :=
 if E.most=0/\(0<wid x.op\/x.op=63\/x.op=64) then Yw c 8
 else if 0<wid x.op/\(3<x.a\/wid x.op<Fp x.a) then Yw c 9
 else WQ (Xo c (Xk x.op).1) (Xk x.op).2.1
def YV (E:Yb) (L:zm) (c:Ck) (x:ZW):Ck :=
 if x.op=1 then c
 else if x.op<=15 then ZA c x
 else if x.op<=17 then Wj E c x
 else if x.op=26 then (Y8 c 0).1
 else if x.op=27 then Xe c
 else if x.op<=36 then X0 E L c x
 else WO E c x
def VA (E:Yb) (L:zm):List ZW->Ck->Ck
 | [],c=>c
 | x::r,c=>if (YV E L c x).bad≠0 then YV E L c x else VA E L r (YV E L c x)
def ZY (t:Xv):Ck:=VP ⟨[],[],0⟩ 2 (t.out.getD 0 64)
def SD (E:Yb) (f:PJ):Int:=(VA E ((E.types.getD f.ty.toNat ⟨[],[]⟩).Za++f.loc) f.body (ZY (E.types.getD f.ty.toNat ⟨[],[]⟩))).bad
end Go.Proofs.YtakpnepblgfknaaGreatDoor.Valid
namespace Go.Proofs.YtakpnepblgfknaaGreatDoor.Valid
open Go Y2 Go.RowKit
open YZ Zn X4 YS
def Yk (p:ZG):zk:=[.int .u8 p.op,.int .u8 p.kind,.int .i64 (p.base:Int),.bool p.dead,.bool p.under]
def Is {α:Type} (x y:α):Prop:=y=x
structure Xy (st:zm) (op:List ZG):Prop where
 CN:(op.map (·.base)).Pairwise (·<=·)
 le:∀p,op[op.length-1]?=some p->p.base<=st.length
theorem V4 {st:zm} {op:List ZG} {b:Int} {p:ZG} (h:op[op.length-1]?=some p):Ww ⟨st,op,b⟩=p:=by grind [Ww]
theorem Xy.all {st:zm} {op:List ZG} {p:ZG} (h:Xy st op) (hp:op[op.length-1]?=some p):∀q∈op,q.base<=p.base:=by
 intro q hq
 obtain ⟨i,hi,rfl⟩:=lzb.1 hq
 obtain ⟨hl,e⟩:=lba.1 hp
 subst e
 rcases lBa i (op.length-1) with h1|h1
 .have:=(List.pairwise_iff_getElem.1 h.CN) i (op.length-1) (by grind) (by grind) h1
  simpa using this
 .grind
theorem Xy.JS {st st':zm} {op:List ZG} {p:ZG} (h:Xy st op) (hp:op[op.length-1]?=some p) (hl:p.base<=st'.length):Xy st' op :=
 ⟨h.CN,fun q hq=>by rw [hp] at hq;obtain rfl:=Option.some.inj hq;exact hl⟩
theorem Xy.more {st st':zm} {op:List ZG} (h:Xy st op) (hl:st.length<=st'.length):Xy st' op:=⟨h.CN,fun q hq=>lEa (h.le q hq) hl⟩
theorem Xy.W2 {st:zm} {op:List ZG} (h:Xy st op) (o k:Int) (d u:Bool):Xy st (op++[⟨o,k,st.length,d,u⟩]):=by
 refine ⟨?_,fun q hq=>?_⟩
 .rw [llb,List.pairwise_append]
  refine ⟨h.CN,by simp,fun a ha c hc=>?_⟩
  obtain ⟨q,hq,rfl⟩:=lWa.1 ha
  have hc:c=st.length:=by grind
  subst hc
  cases hl:op[op.length-1]? with
  | none =>
   have:=List.getElem?_eq_none_iff.1 hl
   have:op.length=0:=by omega
   rw [List.length_eq_zero_iff.1 this] at hq;cases hq
  | some p=>exact lEa (h.all hl q hq) (h.le p hl)
 .grind
theorem Xy.less {st:zm} {op:List ZG} (h:Xy st op):Xy st (op.take (op.length-1)):=by
 refine ⟨by rw [List.map_take];exact h.CN.sublist (List.take_sublist _ _),fun q hq=>?_⟩
 have hm:q∈op:=lyb (lda hq)
 cases hl:op[op.length-1]? with
 | none =>
  have:=List.getElem?_eq_none_iff.1 hl
  have:op.length=0:=by omega
  rw [List.length_eq_zero_iff.1 this] at hm;cases hm
 | some p=>exact lEa (h.all hl q hm) (h.le p hl)
theorem Xy.same {st:zm} {op:List ZG} {p p':ZG} (h:Xy st op) (hp:op[op.length-1]?=some p) (hb:p'.base=p.base):Xy st (op.set (op.length-1) p'):=by
 have hl:=(lba.1 hp).1
 refine ⟨?_,fun q hq=>?_⟩
 .have e:(op.set (op.length-1) p').map (·.base)=op.map (·.base):=by
   apply lFa
   intro i
   rw [List.map_set,lMa]
   split
   .grind
   .rfl
  rw [e];exact h.CN
 .rw [lua,lMa,if_pos rfl,if_pos hl] at hq
  obtain rfl:=Option.some.inj hq
  rw [hb];exact h.le p hp
theorem aeL {op:List ZG} {p p':ZG} (hp:op[op.length-1]?=some p):op.set (op.length-1) p'=op.take (op.length-1)++[p']:=by
 have hl:=(lba.1 hp).1
 apply lFa
 intro i
 rw [lMa]
 split
 .grind
 .grind
section
variable {g:ZB} {w:World} {l:List As} {pc:Nat} {m:Zg} {vl vs vo:Value} {st:zm} {op:List ZG} {b:Int}
theorem aip {st:zm} {op:List ZG} {b e:Int} (h:b=0):Is (Yw ⟨st,op,b⟩ e) ⟨st,op,e⟩:=(if_pos h:Yw ⟨st,op,b⟩ e=_).symm
theorem aiq {st:zm} {op:List ZG} {b e:Int} (h:b≠0):Is (Yw ⟨st,op,b⟩ e) ⟨st,op,b⟩:=(if_neg h:Yw ⟨st,op,b⟩ e=_).symm
theorem fail (H:Sat g w (Pt pc (zL m [vl,vs,vo,zJ b]) 241::Sl 97 1 Yx vs st::Sl 246 5 Yk vo op::l)) (e:Int):zn 216 #[zI pc,zJ e] w (fun _ w'=>∃b',Is (Yw ⟨st,op,b⟩ e) ⟨st,op,b'⟩/\Sat g w' (Pt pc (zL m [vl,vs,vo,zJ b']) 241::Sl 97 1 Yx vs st::Sl 246 5 Yk vo op::l)):=by
 refine Fc.of Tryz.func216 rfl k_e<|Z9 rfl<|zG H 0 14 zD ?_
 refine zq (fun c1=>?_) (fun c1=>?_)
 .refine Z9 rfl<|Yc H 0 rfl rfl rfl rfl<|fun w1 H=>Z5.mk ?_
  refine ⟨e,?_⟩
  constructor
  .exact aip c1
  exact H
 refine Z5.mk ?_
 refine ⟨b,?_⟩
 constructor
 .exact aiq c1
 exact H
theorem air {st:zm} {op:List ZG} {b k:Int} (h:k≠64):Is (Xl ⟨st,op,b⟩ k) ⟨st++[k],op,b⟩:=(if_pos h:Xl ⟨st,op,b⟩ k=_).symm
theorem ais {st:zm} {op:List ZG} {b k:Int} (h:k=64):Is (Xl ⟨st,op,b⟩ k) ⟨st,op,b⟩:=(if_neg (fun n=>n h):Xl ⟨st,op,b⟩ k=_).symm
theorem push (H:Sat g w (Pt pc (zL m [vl,vs,vo,zJ b]) 241::Sl 97 1 Yx vs st::Sl 246 5 Yk vo op::l)) (k:Int) (hst:st.length<=100000):zn 217 #[zI pc,.int .u8 k] w (fun _ w'=>∃vs' st',Is (Xl ⟨st,op,b⟩ k) ⟨st',op,b⟩/\st.length<=st'.length/\st'.length<=st.length+1/\Sat g w' (Pt pc (zL m [vl,vs',vo,zJ b]) 241::Sl 97 1 Yx vs' st'::Sl 246 5 Yk vo op::l)):=by
 refine Fc.of Tryz.func217 rfl k_e ?_
 refine zo (fun c1=>?_) (fun c1=>?_)
 .refine Z9 rfl<|zG H 0 12 zD<|ZZ H rfl rfl rfl rfl<|fun p1 w1 H=>WS (ys:=[_]) 1 H 2 rfl (H.at 0 rfl) rfl (fun y _=>rfl) rfl rfl rfl zO zO<|fun v1 w2 H=>Z9 rfl<|Yc H 1 rfl rfl rfl (H.one 2 rfl)<|fun w1 H=>Z5.mk ?_
  refine ⟨v1,st++[k],?_⟩
  constructor
  .exact air c1
  constructor
  .simp
  constructor
  .simp
  exact H.Z7 [3,3,3]<|fun H=>H.drop 3<|fun H=>H
 refine Z5.mk ?_
 refine ⟨vs,st,?_⟩
 constructor
 .exact ais c1
 refine ⟨zO,?_⟩
 refine ⟨zO,?_⟩
 exact H
theorem top (H:Sat g w (Pt pc (zL m [vl,vs,vo,zJ b]) 241::Sl 97 1 Yx vs st::Sl 246 5 Yk vo op::l)) (p:ZG) (hp:op[op.length-1]?=some p) (hn:0<op.length) (hop:op.length<=100):zn 132 #[zI pc] w (fun r w'=>∃b0 o0,r=.pointer (some ⟨b0,o0,none⟩)/\El vo 5 (op.length-1) b0 o0/\Sat g w' (Pt pc (zL m [vl,vs,vo,zJ b]) 241::Sl 97 1 Yx vs st::Sl 246 5 Yk vo op::l)):=by
 refine Fc.of Tryz.func132 rfl k_e<|ZI H [] [zHp0,zHp1,zHp2,zHh3,zHp4,zHp5,zHp6,zHh7,zHp8,zHp9,zHp10,zHp11] mixed k_e k_e<|fun w1 H=>zE rfl rfl<|zF 0 13 zD rfl<|zE rfl rfl<|zF 0 13 zD rfl ?_
 obtain ⟨a1,c1,V1⟩:=H.form 2 rfl
 refine tk (fun _ Z=>W3 V1 rfl zK)<|ZU zO ?_
 obtain ⟨b1,o1,E1⟩:=H.YQ 2 rfl ((op.length)-1) zO
 refine tk (fun _ Z=>ZF E1 zO rfl rfl zK)<|Z5.mk ?_
 refine ⟨b1,o1,?_⟩
 refine ⟨rfl,?_⟩
 refine ⟨zN,?_⟩
 exact H
end
end Go.Proofs.YtakpnepblgfknaaGreatDoor.Valid
namespace Go.Proofs.YtakpnepblgfknaaGreatDoor.Valid
open Go Y2 Go.RowKit
open YZ Zn X4 YS
section
variable {g:ZB} {w:World} {l:List As} {pc:Nat} {m:Zg} {vl vs vo:Value} {st:zm} {op:List ZG} {b:Int}
theorem TJ {want:Int} (h:want=64):Is (Y8 ⟨st,op,b⟩ want) (⟨st,op,b⟩,want):=by
 subst h;exact (if_pos rfl:Y8 ⟨st,op,b⟩ 64=_).symm
theorem anp {want:Int} {p:ZG} (h:want≠64) (hp:op[op.length-1]?=some p) (he:st.length=p.base) (hd:p.dead=true):Is (Y8 ⟨st,op,b⟩ want) (⟨st,op,b⟩,want):=by
 unfold Is Y8
 rw [if_neg h,V4 hp,if_pos he,if_pos hd]
theorem anq {want b':Int} {p:ZG} (h:want≠64) (hp:op[op.length-1]?=some p) (he:st.length=p.base) (hd:p.dead=false) (hf:Is (Yw ⟨st,op,b⟩ 10) ⟨st,op,b'⟩):Is (Y8 ⟨st,op,b⟩ want) (⟨st,op,b'⟩,want):=by
 unfold Is at *
 unfold Y8
 rw [if_neg h,V4 hp,if_pos he,if_neg (by grind),<-hf]
theorem anr {want k:Int} {p:ZG} (h:want≠64) (hp:op[op.length-1]?=some p) (he:¬st.length=p.base) (hk:st[st.length-1]?=some k) (h0:k=0):Is (Y8 ⟨st,op,b⟩ want) (⟨st.take (st.length-1),op,b⟩,want):=by
 unfold Is Y8
 rw [if_neg h,V4 hp,if_neg he,lja,hk]
 exact (if_pos h0).symm
theorem ant {want k b':Int} {p:ZG} (h:want≠64) (hp:op[op.length-1]?=some p) (he:¬st.length=p.base) (hk:st[st.length-1]?=some k) (h0:k≠0) (h1:want≠0) (h2:k≠want) (hf:Is (Yw ⟨st.take (st.length-1),op,b⟩ 10) ⟨st.take (st.length-1),op,b'⟩):Is (Y8 ⟨st,op,b⟩ want) (⟨st.take (st.length-1),op,b'⟩,k):=by
 unfold Is at *
 unfold Y8
 rw [if_neg h,V4 hp,if_neg he,lja,hk,hf]
 simp only [Option.getD_some]
 rw [if_neg h0,if_pos ⟨h1,h2⟩]
theorem aky {want k:Int} {p:ZG} (h:want≠64) (hp:op[op.length-1]?=some p) (he:¬st.length=p.base) (hk:st[st.length-1]?=some k) (h0:k≠0) (h1:want=0\/k=want):Is (Y8 ⟨st,op,b⟩ want) (⟨st.take (st.length-1),op,b⟩,k):=by
 unfold Is Y8
 rw [if_neg h,V4 hp,if_neg he,lja,hk]
 simp only [Option.getD_some]
 rw [if_neg h0,if_neg zO]
theorem pop (H:Sat g w (Pt pc (zL m [vl,vs,vo,zJ b]) 241::Sl 97 1 Yx vs st::Sl 246 5 Yk vo op::l)) (want:Int) (hn:0<op.length) (hop:op.length<=100) (hst:st.length<=100000) (hok:Xy st op):zn 192 #[zI pc,.int .u8 want] w (fun r w'=>∃k vs' st' b',r=.int .u8 k/\Is (Y8 ⟨st,op,b⟩ want) (⟨st',op,b'⟩,k)/\Xy st' op/\st'.length<=st.length/\Sat g w' (Pt pc (zL m [vl,vs',vo,zJ b']) 241::Sl 97 1 Yx vs' st'::Sl 246 5 Yk vo op::l)):=by
 obtain ⟨p,hp⟩:∃p,op[op.length-1]?=some p:=⟨_,laa zO⟩
 have hle:=hok.le p hp
 refine Fc.of Tryz.func192 rfl k_e ?_
 refine zq (fun c1=>?_) (fun c1=>?_)
 .refine Z5.mk ?_
  refine ⟨want,vs,st,b,?_⟩
  constructor
  .simp
  constructor
  .exact TJ zN
  refine ⟨zO,?_⟩
  refine ⟨zO,?_⟩
  exact H
 refine Z8.mk (Fc.imp (Valid.top H _ hp zO zO) ?_)
 rintro _ w1 ⟨FV,⟨DJ,⟨rfl,⟨h1,H⟩⟩⟩⟩
 refine ZI H [] [zHp0,zHp1,zHp2,zHh3,zHp4,zHp5,zHp6,zHp7,zHh8,zHp9] mixed k_e k_e<|fun w2 H=>zE rfl rfl<|zF 0 12 zD rfl ?_
 obtain ⟨a1,c2,V1⟩:=H.form 1 rfl
 refine tk (fun _ Z=>W3 V1 rfl zK)<|zE rfl rfl<|tk (fun _ Z=>zz (Z.el 2 rfl h1 hp) 2 zy zK) ?_
 refine zq (fun c3=>?_) (fun c3=>?_)
 .refine Z9 rfl<|zz (H.el 2 rfl h1 hp) 3 zy ?_
  refine cI (fun c4=>?_) (fun c4=>?_)
  .replace c4:=SH (c4)
   refine Z8.mk (Fc.imp (Valid.fail H _) ?_)
   rintro v' w1 ⟨XR,⟨h2,H⟩⟩
   refine Z5.mk ?_
   refine ⟨want,vs,st,XR,?_⟩
   constructor
   .simp
   constructor
   .exact anq zN hp zO zN zN
   refine ⟨zO,?_⟩
   refine ⟨zO,?_⟩
   exact H
  replace c4:=SG (c4)
  refine Z5.mk ?_
  refine ⟨want,vs,st,b,?_⟩
  constructor
  .simp
  constructor
  .exact anp zN hp zO zN
  refine ⟨zO,?_⟩
  refine ⟨zO,?_⟩
  exact H
 refine ZI H [] [zHp0,zHp1,zHp2,zHh3,zHp4,zHp5,zHp6,zHh7,zHp8,zHp9,zHp10,zHh11,zHp12] mixed k_e k_e<|fun w1 H=>zE rfl rfl<|zF 0 12 zD rfl<|zE rfl rfl<|zF 0 12 zD rfl<|tk (fun _ Z=>W3 V1 rfl zK)<|ZU zO ?_
 obtain ⟨x1,hx1⟩:∃x,(st)[((st.length)-1)]?=some x:=⟨_,laa zO⟩
 obtain ⟨b1,o1,E1⟩:=H.YQ 1 rfl ((st.length)-1) zO
 refine tk (fun _ Z=>ZF E1 zO rfl rfl zK)<|tk (fun _ Z=>zz (Z.el 1 rfl E1 hx1) 0 zy zK)<|ZI H [] [zHp0,zHp1,zHp2,zHp3,zHh4,zHp5,zHp6,zHp7,zHh8,zHp9,zHp10,zHp11,zHp12,zHp13,zHfr14] mixed k_e k_e<|fun w2 H=>zE rfl rfl<|zF 0 12 zD rfl<|zE rfl rfl<|zF 0 12 zD rfl<|tk (fun _ Z=>W3 V1 rfl zK)<|ZU zO ?_
 obtain ⟨v1,V2⟩:=H.vw 1 rfl (0) (((st.length)-1)) zO zO
 refine tk (fun _ Z=>Wl V2 rfl rfl (.inl zK) (.inr ⟨_,by first|rfl|(congr 2;omega)⟩) zK)<|zE rfl rfl<|Yc H 0 rfl rfl rfl (by simp only [Bool.and_true,H.one 1 rfl,H.one 2 rfl,Vw.one V2])<|fun w1 H=>?_
 replace H:=H.Le 1 rfl V2
 simp only [List.set_cons_succ,List.set_cons_zero] at H
 refine bk ?_
 refine zq (fun c4=>?_) (fun c4=>?_)
 .refine Z5.mk ?_
  refine ⟨want,v1,List.take (st.length-1) st,b,?_⟩
  constructor
  .simp
  constructor
  .exact anr zN hp zO hx1 zN
  constructor
  .exact hok.JS hp (by grind)
  constructor
  .simp
  exact H
 refine br (fun c5=>?_) (fun c5=>?_)
 .replace c5:=YI (c5)
  refine zo (fun c6=>?_) (fun c6=>?_)
  .refine Z8.mk (Fc.imp (Valid.fail H _) ?_)
   rintro v' w2 ⟨XR,⟨h2,H⟩⟩
   refine Z5.mk ?_
   refine ⟨x1,v1,List.take (st.length-1) st,XR,?_⟩
   constructor
   .simp
   constructor
   .exact ant zN hp zO hx1 zN zN zN zN
   constructor
   .exact hok.JS hp (by grind)
   constructor
   .simp
   exact H
  refine Z5.mk ?_
  refine ⟨x1,v1,List.take (st.length-1) st,b,?_⟩
  constructor
  .simp
  constructor
  .exact aky zN hp zO hx1 zN zO
  constructor
  .exact hok.JS hp (by grind)
  constructor
  .simp
  exact H
 replace c5:=YH (c5)
 refine cF rfl<|Z5.mk ?_
 refine ⟨x1,v1,List.take (st.length-1) st,b,?_⟩
 constructor
 .simp
 constructor
 .exact aky zN hp zO hx1 zN zO
 constructor
 .exact hok.JS hp (by grind)
 constructor
 .simp
 exact H
end
end Go.Proofs.YtakpnepblgfknaaGreatDoor.Valid
namespace Go.Proofs.YtakpnepblgfknaaGreatDoor.Valid
open Go Y2 Go.RowKit
open YZ Zn X4 YS
section
variable {g:ZB} {w:World} {l:List As} {pc:Nat} {m:Zg} {vl vs vo:Value} {st:zm} {op:List ZG} {b:Int}
theorem acq {st:zm} {b:Int}:TL ⟨st,[],b⟩=false:=if_pos rfl
theorem ads {p:ZG} (hp:op[op.length-1]?=some p):TL ⟨st,op,b⟩=(p.dead || p.under):=by
 have hne:op≠[]:=by grind
 unfold TL
 rw [if_neg hne,V4 hp]
theorem I0 {o k:Int} {u:Bool} (h:TL ⟨st,op,b⟩=u):Is (VP ⟨st,op,b⟩ o k) ⟨st,op++[⟨o,k,st.length,false,u⟩],b⟩:=by grind [Is,VP]
theorem W2 (H:Sat g w (Pt pc (zL m [vl,vs,vo,zJ b]) 241::Sl 97 1 Yx vs st::Sl 246 5 Yk vo op::l)) (o k:Int) (hop:op.length<=100) (hst:st.length<=100000) (hok:Xy st op):zn 131 #[zI pc,.int .u8 o,.int .u8 k] w (fun r w'=>∃SU op',Is (VP ⟨st,op,b⟩ o k) ⟨st,op',b⟩/\Xy st op'/\op'.length=op.length+1/\Sat g w' (Pt pc (zL m [vl,vs,SU,zJ b]) 241::Sl 97 1 Yx vs st::Sl 246 5 Yk SU op'::l)):=by
 rcases lMb op.length with h0|h0
 .obtain rfl:=lma h0
  refine Fc.of Tryz.func131 rfl k_e<|Z9 rfl<|zG H 0 13 zD<|Yz H 2 rfl rfl<|cF (Zj zO)<|ZI H [] [zHp0,zHp1,zHp2,zHp3,zHh4,zHp5,zHp6,zHp7,zHp8,zHp9,zHh10,zHp11,zHp12,zHp13,zHf14,zHfr15,zHp16,zHp17,zHfr18] mixed k_e k_e<|fun w1 H=>zE rfl rfl<|zF 0 13 zD rfl<|zE rfl rfl<|zF 0 12 zD rfl ?_
  obtain ⟨a1,c1,V1⟩:=H.form 1 rfl
  refine tk (fun _ Z=>W3 V1 rfl zK)<|tk (fun _ Z=>Zq rfl rfl rfl zK)<|ZZ H rfl rfl rfl rfl<|fun p1 w2 H=>Zs.mk (H.drop 0 (fun H=>H))<|WS (ys:=[⟨_,_,_,_,_⟩]) 24 H 3 rfl (H.at 0 rfl) rfl (fun y _=>rfl) rfl rfl rfl zO zO<|fun v1 w1 H=>zE rfl rfl<|Yc H 1 rfl rfl rfl (H.one 3 rfl)<|fun w2 H=>Z5.mk ?_
  refine ⟨v1,[]++[{ op:=o,kind:=k,base:=st.length,dead:=false,under:=false }],?_⟩
  constructor
  .exact I0 acq
  constructor
  .exact hok.W2 _ _ _ _
  refine ⟨rfl,?_⟩
  exact H.Z7 [3,3,3]<|fun H=>H.drop 3<|fun H=>H
 .obtain ⟨p,hp⟩:∃p,op[op.length-1]?=some p:=⟨_,laa zO⟩
  have hu:=ads (st:=st) (b:=b) hp
  cases hd:p.dead
  .rw [hd] at hu
   refine Fc.of Tryz.func131 rfl k_e<|Z9 rfl<|zG H 0 13 zD<|Yz H 2 rfl rfl<|cT (Y9 zO) ?_
   refine Z8.mk (Fc.imp (Valid.top H _ hp zO zO) ?_)
   rintro _ w1 ⟨FV,⟨DJ,⟨rfl,⟨h1,H⟩⟩⟩⟩
   refine Z9 rfl<|zz (H.el 2 rfl h1 hp) 3 zy<|WU (zN) ?_
   refine Z8.mk (Fc.imp (Valid.top H _ hp zO zO) ?_)
   rintro _ w2 ⟨b02,⟨o02,⟨rfl,⟨h2,H⟩⟩⟩⟩
   refine Z9 rfl<|zz (H.el 2 rfl h2 hp) 4 zy<|ZI H [] [zHp0,zHp1,zHp2,zHp3,zHh4,zHp5,zHp6,zHp7,zHp8,zHp9,zHh10,zHp11,zHp12,zHp13,zHf14,zHfr15,zHp16,zHp17,zHfr18] mixed k_e k_e<|fun w3 H=>zE rfl rfl<|zF 0 13 zD rfl<|zE rfl rfl<|zF 0 12 zD rfl ?_
   obtain ⟨a1,c1,V1⟩:=H.form 1 rfl
   refine tk (fun _ Z=>W3 V1 rfl zK)<|tk (fun _ Z=>Zq rfl rfl rfl zK)<|ZZ H rfl rfl rfl rfl<|fun p1 w2 H=>Zs.mk (H.drop 0 (fun H=>H))<|WS (ys:=[⟨_,_,_,_,_⟩]) 24 H 3 rfl (H.at 0 rfl) rfl (fun y _=>rfl) rfl rfl rfl zO zO<|fun v1 w3 H=>zE rfl rfl<|Yc H 1 rfl rfl rfl (H.one 3 rfl)<|fun w2 H=>Z5.mk ?_
   refine ⟨v1,op++[{ op:=o,kind:=k,base:=st.length,dead:=false,under:=p.5 }],?_⟩
   constructor
   .exact I0 hu
   constructor
   .exact hok.W2 _ _ _ _
   constructor
   .simp
   exact H.Z7 [3,3,3]<|fun H=>H.drop 3<|fun H=>H
  .rw [hd] at hu
   refine Fc.of Tryz.func131 rfl k_e<|Z9 rfl<|zG H 0 13 zD<|Yz H 2 rfl rfl<|cT (Y9 zO) ?_
   refine Z8.mk (Fc.imp (Valid.top H _ hp zO zO) ?_)
   rintro _ w1 ⟨FV,⟨DJ,⟨rfl,⟨h1,H⟩⟩⟩⟩
   refine Z9 rfl<|zz (H.el 2 rfl h1 hp) 3 zy<|Wp (zN)<|ZI H [] [zHp0,zHp1,zHp2,zHp3,zHh4,zHp5,zHp6,zHp7,zHp8,zHp9,zHh10,zHp11,zHp12,zHp13,zHf14,zHfr15,zHp16,zHp17,zHfr18] mixed k_e k_e<|fun w2 H=>zE rfl rfl<|zF 0 13 zD rfl<|zE rfl rfl<|zF 0 12 zD rfl ?_
   obtain ⟨a1,c1,V1⟩:=H.form 1 rfl
   refine tk (fun _ Z=>W3 V1 rfl zK)<|tk (fun _ Z=>Zq rfl rfl rfl zK)<|ZZ H rfl rfl rfl rfl<|fun p1 w1 H=>Zs.mk (H.drop 0 (fun H=>H))<|WS (ys:=[⟨_,_,_,_,_⟩]) 24 H 3 rfl (H.at 0 rfl) rfl (fun y _=>rfl) rfl rfl rfl zO zO<|fun v1 w2 H=>zE rfl rfl<|Yc H 1 rfl rfl rfl (H.one 3 rfl)<|fun w1 H=>Z5.mk ?_
   refine ⟨v1,op++[{ op:=o,kind:=k,base:=st.length,dead:=false,under:=true }],?_⟩
   constructor
   .exact I0 hu
   constructor
   .exact hok.W2 _ _ _ _
   constructor
   .simp
   exact H.Z7 [3,3,3]<|fun H=>H.drop 3<|fun H=>H
theorem anu {p:ZG} (hp:op[op.length-1]?=some p):Is (Uy ⟨st,op,b⟩) ⟨st.take p.base,op.set (op.length-1) ⟨p.op,p.kind,p.base,true,p.under⟩,b⟩:=by grind [Is,Uy,V4]
theorem die (H:Sat g w (Pt pc (zL m [vl,vs,vo,zJ b]) 241::Sl 97 1 Yx vs st::Sl 246 5 Yk vo op::l)) (hn:0<op.length) (hop:op.length<=100) (hst:st.length<=100000) (hok:Xy st op):zn 214 #[zI pc] w (fun r w'=>∃vs' st' op',Is (Uy ⟨st,op,b⟩) ⟨st',op',b⟩/\Xy st' op'/\st'.length<=st.length/\op'.length=op.length/\Sat g w' (Pt pc (zL m [vl,vs',vo,zJ b]) 241::Sl 97 1 Yx vs' st'::Sl 246 5 Yk vo op'::l)):=by
 obtain ⟨p,hp⟩:∃p,op[op.length-1]?=some p:=⟨_,laa zO⟩
 have hle:=hok.le p hp
 refine Fc.of Tryz.func214 rfl k_e ?_
 refine Z8.mk (Fc.imp (Valid.top H _ hp zO zO) ?_)
 rintro _ w1 ⟨FV,⟨DJ,⟨rfl,⟨h1,H⟩⟩⟩⟩
 refine ZI H [] [zHp0,zHp1,zHp2,zHp3,zHh4,zHp5,zHp6,zHp7,zHh8,zHp9,zHp10,zHp11,zHfr12] mixed k_e k_e<|fun w2 H=>zE rfl rfl<|zF 0 12 zD rfl<|zE rfl rfl<|tk (fun _ Z=>zz (Z.el 2 rfl h1 hp) 2 zy zK) ?_
 obtain ⟨v1,V1⟩:=H.vw 1 rfl (0) ((p.base)) zO zO
 refine tk (fun _ Z=>Wl V1 rfl rfl (.inl zK) (.inr ⟨_,by first|rfl|(congr 2;omega)⟩) zK)<|zE rfl rfl<|Yc H 0 rfl rfl rfl (by simp only [Bool.and_true,H.one 1 rfl,H.one 2 rfl,Vw.one V1])<|fun w1 H=>Z9 rfl<|Yg H 2 rfl h1 hp 3 ⟨p.op,p.kind,p.base,true,p.under⟩ rfl rfl rfl rfl<|fun w2 H=>?_
 replace H:=H.Le 1 rfl V1
 simp only [List.set_cons_succ,List.set_cons_zero] at H
 refine Z5.mk ?_
 refine ⟨v1,List.take p.base st,op.set (op.length-1) { op:=p.op,kind:=p.kind,base:=p.base,dead:=true,under:=p.under },?_⟩
 constructor
 .exact anu hp
 constructor
 .exact (hok.JS hp (by grind)).same hp rfl
 constructor
 .grind
 constructor
 .simp
 exact H
end
end Go.Proofs.YtakpnepblgfknaaGreatDoor.Valid
namespace Go.Proofs.YtakpnepblgfknaaGreatDoor.Valid
open Go Y2 Go.RowKit
open YZ Zn X4 YS
section
variable {g:ZB} {w:World} {l:List As} {pc:Nat} {m:Zg} {vl vs vo:Value} {st:zm} {op:List ZG} {b:Int}
theorem along (p:ZG) (w:World):zn 220 #[.agg #[.int .u8 p.op,.int .u8 p.kind,zJ (p.base:Int),.bool p.dead,.bool p.under]] w (fun v w'=>(∃k,v=.int .u8 k/\k=Zf p)/\Sat (WC w) w' []):=by
 refine Fc.of Tryz.func220 rfl k_e ?_
 have H:=Sat.start w
 refine ZN H<|fun p1 w1 H=>Z9 rfl<|zG H 0 0 zD ?_
 refine zq (fun c1=>?_) (fun c1=>?_)
 .refine Z5.mk ?_
  constructor
  .refine ⟨64,?_⟩
   constructor
   .simp
   exact (if_pos zN).symm
  exact H.firsts 0<|fun H=>H
 refine Z9 rfl<|zG H 0 1 zD<|Z5.mk ?_
 constructor
 .refine ⟨p.kind,?_⟩
  constructor
  .simp
  exact (if_neg zN).symm
 exact H.firsts 0<|fun H=>H
theorem anv {n b':Int} (h:(op.length:Int)<=n) (hf:Is (Yw ⟨st,op,b⟩ 8) ⟨st,op,b'⟩):Is (YJ ⟨st,op,b⟩ n) (⟨st,op,b'⟩,pz):=by grind [Is,YJ]
theorem anw {k:Nat} {p:ZG} (h:k<op.length) (hp:op[op.length-1-k]?=some p):Is (YJ ⟨st,op,b⟩ (k:Int)) (⟨st,op,b⟩,p):=by grind [Is,YJ]
theorem out (H:Sat g w (Pt pc (zL m [vl,vs,vo,zJ b]) 241::Sl 97 1 Yx vs st::Sl 246 5 Yk vo op::l)) (n:Int) (h0:0<=n/\n<=9223372036854775807) (hop:op.length<=100):zn 219 #[zI pc,zJ n] w (fun r w'=>∃b' p,r=.agg #[.int .u8 p.op,.int .u8 p.kind,zJ (p.base:Int),.bool p.dead,.bool p.under]/\Is (YJ ⟨st,op,b⟩ n) (⟨st,op,b'⟩,p)/\Sat g w' (Pt pc (zL m [vl,vs,vo,zJ b']) 241::Sl 97 1 Yx vs st::Sl 246 5 Yk vo op::l)):=by
 obtain ⟨k,rfl⟩:∃k:Nat,n=k:=⟨n.toNat,by omega⟩
 refine Fc.of Tryz.func219 rfl k_e ?_
 rcases lBa k op.length with hk|hk
 .obtain ⟨p,hp⟩:∃p,op[op.length-1-k]?=some p:=⟨_,laa zO⟩
  refine ZX H rfl<|fun p1 w1 H=>Z9 rfl<|zG H 1 13 zD<|Yz H 3 rfl rfl<|cF (Yy zO)<|ZI H [] [zHp0,zHp1,zHp2,zHh3,zHp4,zHp5,zHp6,zHh7,zHp8,zHp9,zHp10,zHp11,zHp12,zHh13,zHfr14] mixed k_e k_e<|fun w2 H=>zE rfl rfl<|zF 1 13 zD rfl<|zE rfl rfl<|zF 1 13 zD rfl ?_
  obtain ⟨a1,c1,V1⟩:=H.form 3 rfl
  refine tk (fun _ Z=>W3 V1 rfl zK)<|ZU zO<|ZU zO ?_
  obtain ⟨b1,o1,E1⟩:=H.YQ 3 rfl (((op.length)-1)-(k)) zO
  exact tk (fun _ Z=>ZF E1 zO rfl rfl zK)<|tk (fun _ Z=>ZK (Z.el 3 rfl E1 hp) 0 rfl rfl rfl zK)<|ZJ H 0 rfl rfl rfl rfl<|fun w1 H=>XF (H.at 0 rfl) 0 rfl rfl rfl<|Z5.mk ⟨_,p,rfl,anw hk hp,H.del 0⟩
 .refine ZX H rfl<|fun p1 w1 H=>Z9 rfl<|zG H 1 13 zD<|Yz H 3 rfl rfl<|cT (Yh zO)<|H.Z7 [3,3,3]<|fun H=>?_
  refine Z8.mk (Fc.imp (Valid.fail H _) ?_)
  rintro v' w2 ⟨XR,⟨h1,H⟩⟩
  exact Zq rfl rfl rfl<|ZJ H 3 rfl rfl rfl rfl<|fun w3 H=>XF (H.at 3 rfl) 0 rfl rfl rfl<|Z5.mk ⟨_,pz,rfl,anv zO zN,H.del 3⟩
theorem ait {p:ZG} {k:Int} {st':zm} {b':Int} (hp:op[op.length-1]?=some p) (h:Is (Y8 ⟨st,op,b⟩ p.kind) (⟨st',op,b'⟩,k)) (hl:st'.length=p.base):Is (YL ⟨st,op,b⟩) ⟨st',op,b'⟩:=by
 unfold Is at *
 unfold YL
 rw [V4 hp,<-h]
 simp only
 rw [if_neg (fun n=>n hl)]
theorem aiu {p:ZG} {k:Int} {st':zm} {b' b'':Int} (hp:op[op.length-1]?=some p) (h:Is (Y8 ⟨st,op,b⟩ p.kind) (⟨st',op,b'⟩,k)) (hl:st'.length≠p.base) (hf:Is (Yw ⟨st',op,b'⟩ 10) ⟨st',op,b''⟩):Is (YL ⟨st,op,b⟩) ⟨st',op,b''⟩:=by
 unfold Is at *
 unfold YL
 rw [V4 hp,<-h]
 simp only
 rw [if_pos hl,<-hf]
theorem close (H:Sat g w (Pt pc (zL m [vl,vs,vo,zJ b]) 241::Sl 97 1 Yx vs st::Sl 246 5 Yk vo op::l)) (p:ZG) (hp:op[op.length-1]?=some p) (hn:0<op.length) (hop:op.length<=100) (hst:st.length<=100000) (hok:Xy st op):zn 215 #[zI pc] w (fun r w'=>∃vs' st' b',r=.agg #[.int .u8 p.op,.int .u8 p.kind,zJ (p.base:Int),.bool p.dead,.bool p.under]/\Is (YL ⟨st,op,b⟩) ⟨st',op,b'⟩/\Xy st' op/\st'.length<=st.length/\Sat g w' (Pt pc (zL m [vl,vs',vo,zJ b']) 241::Sl 97 1 Yx vs' st'::Sl 246 5 Yk vo op::l)):=by
 refine Fc.of Tryz.func215 rfl k_e<|ZX H rfl<|fun p1 w1 H=>H.Z7 [3,3,3]<|fun H=>?_
 refine Z8.mk (Fc.imp (Valid.top H _ hp zO zO) ?_)
 rintro _ w2 ⟨FV,⟨DJ,⟨rfl,⟨h1,H⟩⟩⟩⟩
 refine ZK (H.el 2 rfl h1 hp) 0 rfl rfl rfl<|ZX H rfl<|fun p2 w3 H=>ZJ H 0 rfl rfl rfl rfl<|fun w2 H=>Z9 rfl<|zG H 0 1 zD<|H.Z7 [3,3,3]<|fun H=>?_
 refine Z8.mk (Fc.imp (Valid.pop H _ zO zO zO zO) ?_)
 rintro _ w3 ⟨k1,⟨Zx,⟨Y1,⟨XR,⟨rfl,⟨h2,⟨h3,⟨h4,H⟩⟩⟩⟩⟩⟩⟩⟩
 refine ZI H [] [zHp0,zHp1,zHp2,zHh3,zHp4,zHp5,zHh6,zHp7] mixed k_e k_e<|fun w4 H=>zE rfl rfl<|zF 0 12 zD rfl ?_
 obtain ⟨a1,c1,V1⟩:=H.form 1 rfl
 refine tk (fun _ Z=>W3 V1 rfl zK)<|zE rfl rfl<|zF 3 2 zD rfl ?_
 refine zo (fun c2=>?_) (fun c2=>?_)
 .refine Z8.mk (Fc.imp (Valid.fail H _) ?_)
  rintro v' w3 ⟨Jq,⟨h5,H⟩⟩
  refine ZK (H.at 3 rfl) 0 rfl rfl rfl<|ZJ H 4 rfl rfl rfl rfl<|fun w5 H=>XF (H.at 4 rfl) 0 rfl rfl rfl<|Z5.mk ?_
  refine ⟨Zx,Y1,Jq,?_⟩
  refine ⟨rfl,?_⟩
  constructor
  .exact aiu hp zN zO zN
  refine ⟨zO,?_⟩
  refine ⟨zO,?_⟩
  exact zw H [4,3]<|fun H=>H
 refine ZK (H.at 3 rfl) 0 rfl rfl rfl<|ZJ H 4 rfl rfl rfl rfl<|fun w3 H=>XF (H.at 4 rfl) 0 rfl rfl rfl<|Z5.mk ?_
 refine ⟨Zx,Y1,XR,?_⟩
 refine ⟨rfl,?_⟩
 constructor
 .exact ait hp zN zO
 refine ⟨zO,?_⟩
 refine ⟨zO,?_⟩
 exact zw H [4,3]<|fun H=>H
theorem anx {a b':Int} {p:ZG} (h:Is (YJ ⟨st,op,b⟩ a) (⟨st,op,b'⟩,p)) (hb:b'≠0):Is (Ud ⟨st,op,b⟩ a) ⟨st,op,b'⟩:=by grind [Is,Ud]
theorem anz {a b' b'' k k':Int} {p:ZG} {st':zm} (h:Is (YJ ⟨st,op,b⟩ a) (⟨st,op,b'⟩,p)) (hk:k=Zf p) (hb:b'=0) (h2:Is (Y8 ⟨st,op,b'⟩ k) (⟨st',op,b''⟩,k')):Is (Ud ⟨st,op,b⟩ a) ⟨st',op,b''⟩:=by grind [Is,Ud]
theorem way (H:Sat g w (Pt pc (zL m [vl,vs,vo,zJ b]) 241::Sl 97 1 Yx vs st::Sl 246 5 Yk vo op::l)) (o a bb:Int) (tv:Value) (ha:0<=a/\a<=9223372036854775807) (hn:0<op.length) (hop:op.length<=100) (hst:st.length<=100000) (hok:Xy st op):zn 218 #[zI pc,.agg #[.int .u8 o,zJ a,zJ bb,tv]] w (fun r w'=>∃vs' st' b',Is (Ud ⟨st,op,b⟩ a) ⟨st',op,b'⟩/\Xy st' op/\st'.length<=st.length/\Sat g w' (Pt pc (zL m [vl,vs',vo,zJ b']) 241::Sl 97 1 Yx vs' st'::Sl 246 5 Yk vo op::l)):=by
 refine Fc.of Tryz.func218 rfl k_e<|ZN H<|fun p1 w1 H=>Z9 rfl<|zG H 0 1 zD<|H.Z7 [3,3,3]<|fun H=>?_
 refine Z8.mk (Fc.imp (Valid.out H _ zO zO) ?_)
 rintro _ w2 ⟨XR,⟨p2,⟨rfl,⟨h1,H⟩⟩⟩⟩
 refine Z8.mk (Fc.imp (Valid.along _ _) ?_)
 rintro _ w3 ⟨⟨k1,⟨rfl,h2⟩⟩,H'⟩
 refine H.X8 H' ?_
 clear H H'
 intro H
 refine Z9 rfl<|zG H 0 14 zD ?_
 refine zq (fun c1=>?_) (fun c1=>?_)
 .refine Z8.mk (Fc.imp (Valid.pop H _ zO zO zO zO) ?_)
  rintro _ w4 ⟨k2,⟨Zx,⟨Y1,⟨Jq,⟨rfl,⟨h3,⟨h4,⟨h5,H⟩⟩⟩⟩⟩⟩⟩⟩
  refine Z5.mk ?_
  refine ⟨Zx,Y1,Jq,?_⟩
  constructor
  .exact anz h1 h2 zN zN
  refine ⟨zO,?_⟩
  refine ⟨zO,?_⟩
  exact H.drop 3<|fun H=>H
 refine Z5.mk ?_
 refine ⟨vs,st,XR,?_⟩
 constructor
 .exact anx h1 zN
 refine ⟨zO,?_⟩
 refine ⟨zO,?_⟩
 exact H.drop 3<|fun H=>H
theorem ahw {xs:zm} {i:Nat} (h:xs.length<=i):Is (Xo ⟨st,op,b⟩ (xs.drop i)) ⟨st,op,b⟩:=by
 rw [lwa h];rfl
theorem Il {xs:zm} {i:Nat} {x k b1 b2:Int} {s1 s2:zm} (hx:xs[i]?=some x) (h:Is (Xo ⟨st,op,b⟩ (xs.drop (i+1))) ⟨s1,op,b1⟩) (h2:Is (Y8 ⟨s1,op,b1⟩ x) (⟨s2,op,b2⟩,k)):Is (Xo ⟨st,op,b⟩ (xs.drop i)) ⟨s2,op,b2⟩:=by grind [Is,List.drop_eq_getElem_cons,Xo]
theorem Wa (H:Sat g w (Pt pc (zL m [vl,vs,vo,zJ b]) 241::Sl 97 1 Yx vs st::Sl 246 5 Yk vo op::l)) (v:Value) (xs:zm) (hx:Z6 g Yx U8 1 v xs) (hl:xs.length<=1000) (hn:0<op.length) (hop:op.length<=100) (hst:st.length<=100000) (hok:Xy st op):zn 222 #[zI pc,v] w (fun r w'=>∃vs' st' b',Is (Xo ⟨st,op,b⟩ xs) ⟨st',op,b'⟩/\Xy st' op/\st'.length<=st.length/\Sat g w' (Pt pc (zL m [vl,vs',vo,zJ b']) 241::Sl 97 1 Yx vs' st'::Sl 246 5 Yk vo op::l)):=by
 refine Fc.of Tryz.func222 rfl k_e<|ZD hx rfl<|ZU zO ?_
 refine YO.rule (α:=Nat × zm × Int × Value) (xs.length,st,b,vs) (fun x_=>[(4,zJ ((x_.1:Int)-1))]) (fun x_ w_=>(x_.1<=xs.length)/\(Is (Xo ⟨st,op,b⟩ (xs.drop x_.1)) ⟨x_.2.1,op,x_.2.2.1⟩)/\(Xy x_.2.1 op)/\(x_.2.1.length<=st.length)/\Sat g w_ ((Pt pc (zL m [vl,x_.2.2.2,vo,zJ x_.2.2.1]) 241::Sl 97 1 Yx x_.2.2.2 x_.2.1::Sl 246 5 Yk vo op::l))) (fun x_=>x_.1) ?_ ?_ ?_
 .exact k_a
 .try simp only
  refine ⟨zO,?_⟩
  constructor
  .exact ahw (lna _)
  refine ⟨zN,?_⟩
  refine ⟨zO,?_⟩
  exact H
 rintro ⟨i,s1,b1,u1⟩ f_ w_ ⟨hi,ht,ho,hs,H⟩
 try simp only at hi ht ho hs H ⊢
 rcases lMb i with h0|h0
 .subst h0
  refine cF (Yy zO)<|Z5.mk ?_
  refine ⟨u1,s1,b1,?_⟩
  refine ⟨zN,?_⟩
  refine ⟨zN,?_⟩
  refine ⟨zN,?_⟩
  exact H
 .obtain ⟨j,rfl⟩:∃j,i=j+1:=⟨i-1,by omega⟩
  have e:((j+1:Nat):Int)-1=(j:Int):=by omega
  rw [e]
  obtain ⟨k,hk⟩:∃k,xs[j]?=some k:=⟨_,laa zO⟩
  refine cT (Yh zO)<|bk ?_
  obtain ⟨b2,o1,E1,F1,ZC⟩:=Z6.YQ hx hk
  refine ZF E1 rfl rfl rfl<|zz (H.X9 F1) 0 zy ?_
  refine Z8.mk (Fc.imp (Valid.pop H _ zN zN zO zN) ?_)
  rintro _ w1 ⟨k1,⟨Zx,⟨Y1,⟨XR,⟨rfl,⟨h1,⟨h2,⟨h3,H⟩⟩⟩⟩⟩⟩⟩⟩
  refine ZU zO ?_
  refine WM.mk ((j,Y1,XR,Zx)) (ZL rfl (ZV)) ?_ ?_
  .refine ⟨zO,?_⟩
   constructor
   .exact Il hk ht zN
   refine ⟨zN,?_⟩
   constructor
   .grind
   exact H
  omega
end
end Go.Proofs.YtakpnepblgfknaaGreatDoor.Valid
namespace Go.Proofs.YtakpnepblgfknaaGreatDoor.Valid
open Go Y2 Go.RowKit
open YZ Zn X4 YS
section
variable {g:ZB} {w:World} {l:List As} {pc:Nat} {m:Zg} {vl vs vo:Value} {st:zm} {op:List ZG} {b:Int}
def GI (st:zm) (op:List ZG) (b:Int) (xs:zm) (i:Nat) (s1:zm):Prop:=WQ ⟨st,op,b⟩ xs=WQ ⟨s1,op,b⟩ (xs.drop i)
theorem GI.zero {xs:zm}:GI st op b xs 0 st:=rfl
theorem GI.fin {xs:zm} {i:Nat} {s1:zm} (h:GI st op b xs i s1) (hi:xs.length<=i):Is (WQ ⟨st,op,b⟩ xs) ⟨s1,op,b⟩:=by
 unfold GI at h;rw [lwa hi] at h;exact h.symm
theorem GI.step {xs:zm} {i:Nat} {s1 s2:zm} {x:Int} (h:GI st op b xs i s1) (hx:xs[i]?=some x) (hp:Is (Xl ⟨s1,op,b⟩ x) ⟨s2,op,b⟩):GI st op b xs (i+1) s2:=by grind [GI,Is,List.drop_eq_getElem_cons,WQ]
theorem Tk (H:Sat g w (Pt pc (zL m [vl,vs,vo,zJ b]) 241::Sl 97 1 Yx vs st::Sl 246 5 Yk vo op::l)) (v:Value) (xs:zm) (hx:Z6 g Yx U8 1 v xs) (hl:xs.length<=1000) (hst:st.length<=90000):zn 223 #[zI pc,v] w (fun r w'=>∃vs' st',Is (WQ ⟨st,op,b⟩ xs) ⟨st',op,b⟩/\st.length<=st'.length/\st'.length<=st.length+xs.length/\Sat g w' (Pt pc (zL m [vl,vs',vo,zJ b]) 241::Sl 97 1 Yx vs' st'::Sl 246 5 Yk vo op::l)):=by
 refine Fc.of Tryz.func223 rfl k_e<|ZD hx rfl ?_
 refine YO.rule (α:=Nat × zm × Value) (0,st,vs) (fun x_=>[(8,zJ x_.1)]) (fun x_ w_=>(x_.1<=xs.length)/\(GI st op b xs x_.1 x_.2.1)/\(st.length<=x_.2.1.length/\x_.2.1.length<=st.length+x_.1)/\Sat g w_ ((Pt pc (zL m [vl,x_.2.2,vo,zJ b]) 241::Sl 97 1 Yx x_.2.2 x_.2.1::Sl 246 5 Yk vo op::l))) (fun x_=>xs.length-x_.1) ?_ ?_ ?_
 .exact k_a
 .try simp only
  refine ⟨zO,?_⟩
  constructor
  .exact GI.zero
  refine ⟨zO,?_⟩
  exact H
 rintro ⟨i,s1,u1⟩ f_ w_ ⟨hi,hg,hs,H⟩
 try simp only at hi hg hs H ⊢
 refine zv (fun c1=>?_) (fun c1=>?_)
 .refine bk ?_
  obtain ⟨x1,hx1⟩:∃x,(xs)[(i)]?=some x:=⟨_,laa zO⟩
  obtain ⟨b1,o1,E1,F1,ZC⟩:=Z6.YQ hx hx1
  refine ZF E1 rfl rfl rfl<|zz (H.X9 F1) 0 zy ?_
  refine Z8.mk (Fc.imp (Valid.push H _ zO) ?_)
  rintro v' w1 ⟨Zx,⟨Y1,⟨h1,⟨h2,⟨h3,H⟩⟩⟩⟩⟩
  refine ZU zO ?_
  refine WM.mk ((i+1,Y1,Zx)) (Zr rfl zO (ZV)) ?_ ?_
  .refine ⟨zO,?_⟩
   constructor
   .exact GI.step hg hx1 zN
   constructor
   .grind
   exact H
  omega
 refine Z5.mk ?_
 refine ⟨u1,s1,?_⟩
 constructor
 .exact hg.fin zO
 refine ⟨zO,?_⟩
 refine ⟨zO,?_⟩
 exact H
theorem K1 {c c1 c2 c3 c4:Ck} {k1 k2 k3:Int} (h1:Is (Y8 c 127) (c1,k1)) (h2:Is (Y8 c1 0) (c2,k2)) (h3:Is (Y8 c2 k2) (c3,k3)) (h4:Is (Xl c3 k3) c4):Is (Xe c) c4:=by grind [Is,Xe]
theorem choose (H:Sat g w (Pt pc (zL m [vl,vs,vo,zJ b]) 241::Sl 97 1 Yx vs st::Sl 246 5 Yk vo op::l)) (hn:0<op.length) (hop:op.length<=100) (hst:st.length<=100000) (hok:Xy st op):zn 193 #[zI pc] w (fun r w'=>∃vs' st' b',Is (Xe ⟨st,op,b⟩) ⟨st',op,b'⟩/\Xy st' op/\st'.length<=st.length+1/\Sat g w' (Pt pc (zL m [vl,vs',vo,zJ b']) 241::Sl 97 1 Yx vs' st'::Sl 246 5 Yk vo op::l)):=by
 refine Fc.of Tryz.func193 rfl k_e ?_
 refine Z8.mk (Fc.imp (Valid.pop H _ zO zO zO ?_) ?_)
 .exact k_j
 clear H
 rintro _ w1 ⟨k1,⟨Zx,⟨Y1,⟨XR,⟨rfl,⟨h1,⟨h2,⟨h3,H⟩⟩⟩⟩⟩⟩⟩⟩
 refine Z8.mk (Fc.imp (Valid.pop H _ zO zO zO ?_) ?_)
 .exact k_j
 clear H
 rintro _ w2 ⟨k2,⟨VF,⟨UL,⟨Jq,⟨rfl,⟨h4,⟨h5,⟨h6,H⟩⟩⟩⟩⟩⟩⟩⟩
 refine Z8.mk (Fc.imp (Valid.pop H _ zO zO zO ?_) ?_)
 .exact k_j
 clear H
 rintro _ w3 ⟨k3,⟨Fo,⟨Fm,⟨CM,⟨rfl,⟨h7,⟨h8,⟨h9,H⟩⟩⟩⟩⟩⟩⟩⟩
 refine Z8.mk (Fc.imp (Valid.push H _ zO) ?_)
 clear H
 rintro v' w4 ⟨anA,⟨anB,⟨h10,⟨h11,⟨h12,H⟩⟩⟩⟩⟩
 refine Z5.mk ?_
 refine ⟨anA,anB,CM,?_⟩
 constructor
 .exact K1 h1 zN zN zN
 constructor
 .exact k_j
 refine ⟨zO,?_⟩
 exact H
def TI (k:Int) (tt:zm) (c0:Ck) (i:Nat) (c1:Ck) (sm:Bool):Prop:=Xr k tt (c0,true)=Xr k (tt.drop i) (c1,sm)
theorem TI.zero {k:Int} {tt:zm} {c:Ck}:TI k tt c 0 c true:=rfl
theorem TI.step {k n k2:Int} {tt:zm} {c c1 c2:Ck} {i:Nat} {sm sm':Bool} {p:ZG} (h:TI k tt c i c1 sm) (hx:tt[i]?=some n) (ho:Is (YJ c1 n) (c2,p)) (hk:k2=Zf p) (hs:sm'=(decide (k2=k) && sm)):TI k tt c (i+1) c2 sm':=by grind [TI,Is,List.drop_eq_getElem_cons,Xr]
theorem TI.fin {k:Int} {tt:zm} {c c1:Ck} {i:Nat} {sm:Bool} (h:TI k tt c i c1 sm) (hi:tt.length<=i):Xr k tt (c,true)=(c1,sm):=by
 unfold TI at h;rw [lwa hi] at h;exact h
theorem aiv {c c0 c1:Ck} {a k:Int} {tt:zm} {p:ZG} {sm:Bool} (h:Is (YJ c a) (c0,p)) (hk:k=Zf p) (hw:Xr k tt (c0,true)=(c1,sm)) (hb:c1.bad≠0):Is (XN c a tt) c1:=by grind [Is,XN]
theorem aeM {c c0 c1 c2 c3 c4:Ck} {a k k3 k4:Int} {tt:zm} {p:ZG} {sm:Bool} (h:Is (YJ c a) (c0,p)) (hk:k=Zf p) (hw:Xr k tt (c0,true)=(c1,sm)) (hb:c1.bad=0) (h2:c2=if sm=true then c1 else Yw c1 10) (h3:Is (Y8 c2 127) (c3,k3)) (h4:Is (Y8 c3 k) (c4,k4)):Is (XN c a tt) c4:=by grind [Is,XN]
theorem aiw {c c0 c1 c2 c3 c4:Ck} {a k k3 k4:Int} {tt:zm} {p:ZG} {sm:Bool} (h:Is (YJ c a) (c0,p)) (hk:k=Zf p) (hw:Xr k tt (c0,true)=(c1,sm)) (hb:c1.bad=0) (hs:sm=false) (h2:Is (Yw c1 10) c2) (h3:Is (Y8 c2 127) (c3,k3)) (h4:Is (Y8 c3 k) (c4,k4)):Is (XN c a tt) c4 :=
 aeM h hk hw hb (by rw [if_neg (by grind)];exact h2) h3 h4
theorem table (H:Sat g w (Pt pc (zL m [vl,vs,vo,zJ b]) 241::Sl 97 1 Yx vs st::Sl 246 5 Yk vo op::l)) (o a bb:Int) (tv:Value) (tt:zm) (ht:Z6 g ZH WV 1 tv tt) (ha:0<=a/\a<=9223372036854775807) (hall:∀n∈tt,0<=n/\n<=9223372036854775807) (hn:0<op.length) (hop:op.length<=100) (hst:st.length<=100000) (hok:Xy st op):zn 221 #[zI pc,.agg #[.int .u8 o,zJ a,zJ bb,tv]] w (fun r w'=>∃vs' st' b',Is (XN ⟨st,op,b⟩ a tt) ⟨st',op,b'⟩/\Xy st' op/\st'.length<=st.length/\Sat g w' (Pt pc (zL m [vl,vs',vo,zJ b']) 241::Sl 97 1 Yx vs' st'::Sl 246 5 Yk vo op::l)):=by
 refine Fc.of Tryz.func221 rfl k_e ?_
 have hlt:=VU.len ht
 refine ZN H<|fun p1 w1 H=>Z9 rfl<|zG H 0 1 zD<|H.Z7 [3,3,3]<|fun H=>?_
 refine Z8.mk (Fc.imp (Valid.out H _ zO zO) ?_)
 rintro _ w2 ⟨XR,⟨p2,⟨rfl,⟨h1,H⟩⟩⟩⟩
 refine Z8.mk (Fc.imp (Valid.along _ _) ?_)
 rintro _ w3 ⟨⟨k1,⟨rfl,h2⟩⟩,H'⟩
 refine H.X8 H' ?_
 clear H H'
 intro H
 refine Z9 rfl<|zG H 3 3 zD<|ZD ht rfl ?_
 refine YO.rule (α:=Nat × Int × Bool) (0,XR,true) (fun x_=>[(16,zJ x_.1),(5,.bool x_.2.2)]) (fun x_ w_=>(x_.1<=tt.length)/\(TI k1 tt ⟨st,op,XR⟩ x_.1 ⟨st,op,x_.2.1⟩ x_.2.2)/\Sat g w_ ((Pt pc (zL m [vl,vs,vo,zJ x_.2.1]) 241::Sl 97 1 Yx vs st::Sl 246 5 Yk vo op::Pt p1 [.int .u8 o,zJ a,zJ bb,tv] 196::l))) (fun x_=>tt.length-x_.1) ?_ ?_ ?_
 .exact k_a
 .try simp only
  refine ⟨zO,?_⟩
  constructor
  .exact TI.zero
  exact H
 rintro ⟨i,b1,sm⟩ f_ w_ ⟨hi,hT,H⟩
 try simp only at hi hT H ⊢
 rcases lBa i tt.length with KZ|hge
 .obtain ⟨n,hn2⟩:∃n,tt[i]?=some n:=⟨_,laa KZ⟩
  have hnb:=hall n (lda hn2)
  refine cT (Y9 zO)<|bk ?_
  obtain ⟨b2,o1,E1,F1,ZC⟩:=Z6.YQ ht hn2
  refine ZF E1 rfl rfl rfl<|zz (H.X9 F1) 0 zy ?_
  refine Z8.mk (Fc.imp (Valid.out H _ zO zO) ?_)
  rintro _ w4 ⟨Jq,⟨p3,⟨rfl,⟨h3,H⟩⟩⟩⟩
  refine Z8.mk (Fc.imp (Valid.along _ _) ?_)
  rintro _ w5 ⟨⟨k2,⟨rfl,h4⟩⟩,H'⟩
  refine H.X8 H' ?_
  clear H H'
  intro H
  refine br (fun c1=>?_) (fun c1=>?_)
  .replace c1:=ZS (c1)
   refine ZU zO ?_
   refine WM.mk ((i+1,Jq,sm)) (Zr rfl zO (ZL rfl (ZV))) ?_ ?_
   .refine ⟨zO,?_⟩
    constructor
    .exact TI.step hT hn2 h3 h4 (by grind)
    exact H
   omega
  replace c1:=ZR (c1)
  refine ZU zO ?_
  refine WM.mk ((i+1,Jq,false)) (Zr rfl zO (ZL rfl (ZV))) ?_ ?_
  .refine ⟨zO,?_⟩
   constructor
   .exact TI.step hT hn2 h3 h4 (by grind)
   exact H
  omega
 .have FL:=hT.fin hge
  refine cF (Zj zO)<|Z9 rfl<|zG H 0 14 zD ?_
  refine zo (fun c1=>?_) (fun c1=>?_)
  .refine Z5.mk ?_
   refine ⟨vs,st,b1,?_⟩
   constructor
   .exact aiv h1 h2 FL c1
   refine ⟨zO,?_⟩
   refine ⟨zO,?_⟩
   exact H.drop 3<|fun H=>H
  refine cI (fun c2=>?_) (fun c2=>?_)
  .replace c2:=SH (c2)
   refine Z8.mk (Fc.imp (Valid.fail H _) ?_)
   rintro v' w4 ⟨Jq,⟨h3,H⟩⟩
   refine Z8.mk (Fc.imp (Valid.pop H _ zO zO zO zO) ?_)
   rintro _ w5 ⟨k2,⟨Zx,⟨Y1,⟨CM,⟨rfl,⟨h4,⟨h5,⟨h6,H⟩⟩⟩⟩⟩⟩⟩⟩
   refine Z8.mk (Fc.imp (Valid.pop H _ zO zO zO zO) ?_)
   rintro _ w6 ⟨k3,⟨VF,⟨UL,⟨b'4,⟨rfl,⟨h7,⟨h8,⟨h9,H⟩⟩⟩⟩⟩⟩⟩⟩
   refine Z5.mk ?_
   refine ⟨VF,UL,b'4,?_⟩
   constructor
   .exact aiw h1 h2 FL zN zN zN zN zN
   refine ⟨zO,?_⟩
   refine ⟨zO,?_⟩
   exact H.drop 3<|fun H=>H
  replace c2:=SG (c2)
  refine Z8.mk (Fc.imp (Valid.pop H _ zO zO zO zO) ?_)
  rintro _ w4 ⟨k2,⟨Zx,⟨Y1,⟨Jq,⟨rfl,⟨h3,⟨h4,⟨h5,H⟩⟩⟩⟩⟩⟩⟩⟩
  refine Z8.mk (Fc.imp (Valid.pop H _ zO zO zO zO) ?_)
  rintro _ w5 ⟨k3,⟨VF,⟨UL,⟨CM,⟨rfl,⟨h6,⟨h7,⟨h8,H⟩⟩⟩⟩⟩⟩⟩⟩
  refine Z5.mk ?_
  refine ⟨VF,UL,CM,?_⟩
  constructor
  .exact aeM h1 h2 FL zN (if_pos zN).symm zN zN
  refine ⟨zO,?_⟩
  refine ⟨zO,?_⟩
  exact H.drop 3<|fun H=>H
end
end Go.Proofs.YtakpnepblgfknaaGreatDoor.Valid
namespace Go.Proofs.YtakpnepblgfknaaGreatDoor.Valid
open Go Y2 Go.RowKit
open YZ Zn X4 YS
section
variable {g:ZB} {w:World} {l:List As} {pc:Nat} {m:Zg} {vl vs vo:Value} {st:zm} {op:List ZG} {b:Int}
theorem c0 {c c':Ck} {a bb:Int} {tt:zm} (h:Is (Uy c) c'):Is (ZA c ⟨0,a,bb,tt⟩) c':=by grind [ZA]
theorem c2 {c c':Ck} {a bb:Int} {tt:zm} (h:Is (VP c 2 a) c'):Is (ZA c ⟨2,a,bb,tt⟩) c':=by grind [ZA]
theorem c3 {c c':Ck} {a bb:Int} {tt:zm} (h:Is (VP c 3 a) c'):Is (ZA c ⟨3,a,bb,tt⟩) c':=by grind [ZA]
theorem c4 {c c1 c':Ck} {k a bb:Int} {tt:zm} (h1:Is (Y8 c 127) (c1,k)) (h:Is (VP c1 4 a) c'):Is (ZA c ⟨4,a,bb,tt⟩) c':=by grind [ZA,Is]
theorem c12 {c c1 c':Ck} {a bb:Int} {tt:zm} (h1:Is (Ud c a) c1) (h:Is (Uy c1) c'):Is (ZA c ⟨12,a,bb,tt⟩) c':=by grind [ZA,Is]
theorem c13 {c c':Ck} {a bb:Int} {tt:zm} (h:Is (VO c a) c'):Is (ZA c ⟨13,a,bb,tt⟩) c':=by grind [ZA]
theorem c15 {c c1 c':Ck} {k a bb:Int} {tt:zm} {q:ZG} (hq:c.Zm[0]?=some q) (h1:Is (Y8 c q.kind) (c1,k)) (h:Is (Uy c1) c'):Is (ZA c ⟨15,a,bb,tt⟩) c':=by grind [ZA,Is]
theorem c14 {c c1 c':Ck} {a bb:Int} {tt:zm} (h1:Is (XN c a tt) c1) (h:Is (Uy c1) c'):Is (ZA c ⟨14,a,bb,tt⟩) c':=by grind [ZA,Is]
theorem akz {c c1:Ck} {a:Int} {p:ZG} (h:Is (YJ c a) (c1,p)) (hb:c1.bad≠0):Is (VO c a) c1:=by grind [Is,VO]
theorem akA {c c1 c2 c3 c4:Ck} {a k k2 k3:Int} {p:ZG} (h:Is (YJ c a) (c1,p)) (hk:k=Zf p) (hb:c1.bad=0) (h2:Is (Y8 c1 127) (c2,k2)) (h3:Is (Y8 c2 k) (c3,k3)) (h4:Is (Xl c3 k) c4):Is (VO c a) c4:=by grind [Is,VO]
theorem DI {a:Int} (h:a=64\/a=127\/a=126):ZO .u8 a=a:=by
 rcases h with rfl|rfl|rfl <;> (unfold ZO;rfl)
theorem anC (H:Sat g w (Pt pc (zL m [vl,vs,vo,zJ b]) 241::Sl 97 1 Yx vs st::Sl 246 5 Yk vo op::l)) (a bb:Int) (tv:Value) (tt:zm) (ht:Z6 g ZH WV 1 tv tt) (hn:0<op.length) (hop:op.length<=99) (hst:st.length<=90000) (hok:Xy st op):zn 190 #[zI pc,.agg #[.int .u8 0,zJ a,zJ bb,tv]] w (fun r w'=>∃vs' SU st' op' b',Is (ZA ⟨st,op,b⟩ ⟨0,a,bb,tt⟩) ⟨st',op',b'⟩/\Xy st' op'/\st'.length<=st.length+1/\Sat g w' (Pt pc (zL m [vl,vs',SU,zJ b']) 241::Sl 97 1 Yx vs' st'::Sl 246 5 Yk SU op'::l)):=by
 obtain ⟨p,hp⟩:∃p,op[op.length-1]?=some p:=⟨_,laa zO⟩
 refine Fc.of Tryz.func190 rfl k_e<|ZN H<|fun p1 w1 H=>Z9 rfl<|zG H 0 0 zD<|bk<|cT (ZM zO)<|H.Z7 [3,3,3]<|fun H=>?_
 refine Z8.mk (Fc.imp (Valid.die H zO zO zO zO) ?_)
 rintro v' w2 ⟨Zx,⟨Y1,⟨XM,⟨h1,⟨h2,⟨h3,⟨h4,H⟩⟩⟩⟩⟩⟩⟩
 refine Z5.mk ?_
 refine ⟨Zx,vo,Y1,XM,b,?_⟩
 constructor
 .exact c0 zN
 refine ⟨zO,?_⟩
 refine ⟨zO,?_⟩
 exact H.drop 3<|fun H=>H
theorem anD (H:Sat g w (Pt pc (zL m [vl,vs,vo,zJ b]) 241::Sl 97 1 Yx vs st::Sl 246 5 Yk vo op::l)) (a bb:Int) (tv:Value) (tt:zm) (ht:Z6 g ZH WV 1 tv tt) (Mr:a=64\/a=127\/a=126) (hn:0<op.length) (hop:op.length<=99) (hst:st.length<=90000) (hok:Xy st op):zn 190 #[zI pc,.agg #[.int .u8 2,zJ a,zJ bb,tv]] w (fun r w'=>∃vs' SU st' op' b',Is (ZA ⟨st,op,b⟩ ⟨2,a,bb,tt⟩) ⟨st',op',b'⟩/\Xy st' op'/\st'.length<=st.length+1/\Sat g w' (Pt pc (zL m [vl,vs',SU,zJ b']) 241::Sl 97 1 Yx vs' st'::Sl 246 5 Yk SU op'::l)):=by
 obtain ⟨p,hp⟩:∃p,op[op.length-1]?=some p:=⟨_,laa zO⟩
 refine Fc.of Tryz.func190 rfl k_e ?_
 have FU:=DI Mr
 refine ZN H<|fun p1 w1 H=>Z9 rfl<|zG H 0 0 zD<|bk<|cF (Z4 zO)<|cT (ZM zO)<|cT (ZM zO)<|Z9 rfl<|zG H 0 0 zD<|Z9 rfl<|zG H 0 1 zD<|T4 zO rfl rfl<|H.Z7 [3,3,3]<|fun H=>?_
 refine Z8.mk (Fc.imp (Valid.W2 H _ _ zO zO zO) ?_)
 rintro v' w2 ⟨Xg,⟨XM,⟨h1,⟨h2,⟨h3,H⟩⟩⟩⟩⟩
 refine Z5.mk ?_
 refine ⟨vs,Xg,st,XM,b,?_⟩
 constructor
 .exact c2 zN
 refine ⟨zO,?_⟩
 refine ⟨zO,?_⟩
 exact H.drop 3<|fun H=>H
theorem anE (H:Sat g w (Pt pc (zL m [vl,vs,vo,zJ b]) 241::Sl 97 1 Yx vs st::Sl 246 5 Yk vo op::l)) (a bb:Int) (tv:Value) (tt:zm) (ht:Z6 g ZH WV 1 tv tt) (Mr:a=64\/a=127\/a=126) (hn:0<op.length) (hop:op.length<=99) (hst:st.length<=90000) (hok:Xy st op):zn 190 #[zI pc,.agg #[.int .u8 3,zJ a,zJ bb,tv]] w (fun r w'=>∃vs' SU st' op' b',Is (ZA ⟨st,op,b⟩ ⟨3,a,bb,tt⟩) ⟨st',op',b'⟩/\Xy st' op'/\st'.length<=st.length+1/\Sat g w' (Pt pc (zL m [vl,vs',SU,zJ b']) 241::Sl 97 1 Yx vs' st'::Sl 246 5 Yk SU op'::l)):=by
 obtain ⟨p,hp⟩:∃p,op[op.length-1]?=some p:=⟨_,laa zO⟩
 refine Fc.of Tryz.func190 rfl k_e ?_
 have FU:=DI Mr
 refine ZN H<|fun p1 w1 H=>Z9 rfl<|zG H 0 0 zD<|bk<|cF (Z4 zO)<|cF (Z4 zO)<|cT (ZM zO)<|Z9 rfl<|zG H 0 0 zD<|Z9 rfl<|zG H 0 1 zD<|T4 zO rfl rfl<|H.Z7 [3,3,3]<|fun H=>?_
 refine Z8.mk (Fc.imp (Valid.W2 H _ _ zO zO zO) ?_)
 rintro v' w2 ⟨Xg,⟨XM,⟨h1,⟨h2,⟨h3,H⟩⟩⟩⟩⟩
 refine Z5.mk ?_
 refine ⟨vs,Xg,st,XM,b,?_⟩
 constructor
 .exact c3 zN
 refine ⟨zO,?_⟩
 refine ⟨zO,?_⟩
 exact H.drop 3<|fun H=>H
theorem anF (H:Sat g w (Pt pc (zL m [vl,vs,vo,zJ b]) 241::Sl 97 1 Yx vs st::Sl 246 5 Yk vo op::l)) (a bb:Int) (tv:Value) (tt:zm) (ht:Z6 g ZH WV 1 tv tt) (Mr:a=64\/a=127\/a=126) (hn:0<op.length) (hop:op.length<=99) (hst:st.length<=90000) (hok:Xy st op):zn 190 #[zI pc,.agg #[.int .u8 4,zJ a,zJ bb,tv]] w (fun r w'=>∃vs' SU st' op' b',Is (ZA ⟨st,op,b⟩ ⟨4,a,bb,tt⟩) ⟨st',op',b'⟩/\Xy st' op'/\st'.length<=st.length+1/\Sat g w' (Pt pc (zL m [vl,vs',SU,zJ b']) 241::Sl 97 1 Yx vs' st'::Sl 246 5 Yk SU op'::l)):=by
 obtain ⟨p,hp⟩:∃p,op[op.length-1]?=some p:=⟨_,laa zO⟩
 refine Fc.of Tryz.func190 rfl k_e ?_
 have FU:=DI Mr
 refine ZN H<|fun p1 w1 H=>Z9 rfl<|zG H 0 0 zD<|bk<|cF (Z4 zO)<|cF (Z4 zO)<|cF (Z4 zO)<|cT (ZM zO)<|H.Z7 [3,3,3]<|fun H=>?_
 refine Z8.mk (Fc.imp (Valid.pop H _ zO zO zO zO) ?_)
 rintro _ w2 ⟨k1,⟨Zx,⟨Y1,⟨XR,⟨rfl,⟨h1,⟨h2,⟨h3,H⟩⟩⟩⟩⟩⟩⟩⟩
 refine Z9 rfl<|zG H 3 0 zD<|Z9 rfl<|zG H 3 1 zD<|T4 zO rfl rfl ?_
 refine Z8.mk (Fc.imp (Valid.W2 H _ _ zO zO zO) ?_)
 rintro v' w3 ⟨Xg,⟨XM,⟨h4,⟨h5,⟨h6,H⟩⟩⟩⟩⟩
 refine Z5.mk ?_
 refine ⟨Zx,Xg,Y1,XM,XR,?_⟩
 constructor
 .exact c4 zN zN
 refine ⟨zO,?_⟩
 refine ⟨zO,?_⟩
 exact H.drop 3<|fun H=>H
theorem akB (H:Sat g w (Pt pc (zL m [vl,vs,vo,zJ b]) 241::Sl 97 1 Yx vs st::Sl 246 5 Yk vo op::l)) (a bb:Int) (tv:Value) (tt:zm) (ht:Z6 g ZH WV 1 tv tt) (ha:0<=a/\a<=9223372036854775807) (hn:0<op.length) (hop:op.length<=99) (hst:st.length<=90000) (hok:Xy st op):zn 190 #[zI pc,.agg #[.int .u8 12,zJ a,zJ bb,tv]] w (fun r w'=>∃vs' SU st' op' b',Is (ZA ⟨st,op,b⟩ ⟨12,a,bb,tt⟩) ⟨st',op',b'⟩/\Xy st' op'/\st'.length<=st.length+1/\Sat g w' (Pt pc (zL m [vl,vs',SU,zJ b']) 241::Sl 97 1 Yx vs' st'::Sl 246 5 Yk SU op'::l)):=by
 obtain ⟨p,hp⟩:∃p,op[op.length-1]?=some p:=⟨_,laa zO⟩
 refine Fc.of Tryz.func190 rfl k_e<|ZN H<|fun p1 w1 H=>Z9 rfl<|zG H 0 0 zD<|bk<|cF (Z4 zO)<|cF (Z4 zO)<|cF (Z4 zO)<|cF (Z4 zO)<|cF (Z4 zO)<|cF (Z4 zO)<|cT (ZM zO)<|ZK (H.at 0 rfl) 0 rfl rfl rfl<|H.Z7 [3,3,3]<|fun H=>?_
 refine Z8.mk (Fc.imp (Valid.way H _ _ _ _ zO zO zO zO zO) ?_)
 rintro v' w2 ⟨Zx,⟨Y1,⟨XR,⟨h1,⟨h2,⟨h3,H⟩⟩⟩⟩⟩⟩
 refine Z8.mk (Fc.imp (Valid.die H zO zO zO zO) ?_)
 rintro V5 w3 ⟨VF,⟨UL,⟨XM,⟨h4,⟨h5,⟨h6,⟨h7,H⟩⟩⟩⟩⟩⟩⟩
 refine Z5.mk ?_
 refine ⟨VF,vo,UL,XM,XR,?_⟩
 constructor
 .exact c12 zN zN
 refine ⟨zO,?_⟩
 refine ⟨zO,?_⟩
 exact H.drop 3<|fun H=>H
theorem akC (H:Sat g w (Pt pc (zL m [vl,vs,vo,zJ b]) 241::Sl 97 1 Yx vs st::Sl 246 5 Yk vo op::l)) (a bb:Int) (tv:Value) (tt:zm) (ht:Z6 g ZH WV 1 tv tt) (ha:0<=a/\a<=9223372036854775807) (hn:0<op.length) (hop:op.length<=99) (hst:st.length<=90000) (hok:Xy st op):zn 190 #[zI pc,.agg #[.int .u8 13,zJ a,zJ bb,tv]] w (fun r w'=>∃vs' SU st' op' b',Is (ZA ⟨st,op,b⟩ ⟨13,a,bb,tt⟩) ⟨st',op',b'⟩/\Xy st' op'/\st'.length<=st.length+1/\Sat g w' (Pt pc (zL m [vl,vs',SU,zJ b']) 241::Sl 97 1 Yx vs' st'::Sl 246 5 Yk SU op'::l)):=by
 obtain ⟨p,hp⟩:∃p,op[op.length-1]?=some p:=⟨_,laa zO⟩
 refine Fc.of Tryz.func190 rfl k_e<|ZN H<|fun p1 w1 H=>Z9 rfl<|zG H 0 0 zD<|bk<|cF (Z4 zO)<|cF (Z4 zO)<|cF (Z4 zO)<|cF (Z4 zO)<|cF (Z4 zO)<|cF (Z4 zO)<|cF (Z4 zO)<|cT (ZM zO)<|Z9 rfl<|zG H 0 1 zD<|H.Z7 [3,3,3]<|fun H=>?_
 refine Z8.mk (Fc.imp (Valid.out H _ zO zO) ?_)
 rintro _ w2 ⟨XR,⟨p2,⟨rfl,⟨h1,H⟩⟩⟩⟩
 refine Z8.mk (Fc.imp (Valid.along _ _) ?_)
 rintro _ w3 ⟨⟨k1,⟨rfl,h2⟩⟩,H'⟩
 refine H.X8 H' ?_
 clear H H'
 intro H
 refine Z9 rfl<|zG H 0 14 zD ?_
 refine zq (fun c1=>?_) (fun c1=>?_)
 .refine Z8.mk (Fc.imp (Valid.pop H _ zO zO zO ?_) ?_)
  .exact k_j
  rintro _ w4 ⟨k2,⟨Zx,⟨Y1,⟨Jq,⟨rfl,⟨h3,⟨h4,⟨h5,H⟩⟩⟩⟩⟩⟩⟩⟩
  refine Z8.mk (Fc.imp (Valid.pop H _ zO zO zO ?_) ?_)
  .exact k_j
  rintro _ w5 ⟨k3,⟨VF,⟨UL,⟨CM,⟨rfl,⟨h6,⟨h7,⟨h8,H⟩⟩⟩⟩⟩⟩⟩⟩
  refine Z8.mk (Fc.imp (Valid.push H _ zO) ?_)
  rintro v' w6 ⟨Fo,⟨Fm,⟨h9,⟨h10,⟨h11,H⟩⟩⟩⟩⟩
  refine Z5.mk ?_
  refine ⟨Fo,vo,Fm,op,CM,?_⟩
  constructor
  .exact c13 (akA h1 h2 zN zN zN zN)
  constructor
  .exact k_j
  refine ⟨zO,?_⟩
  exact H.drop 3<|fun H=>H
 refine Z5.mk ?_
 refine ⟨vs,vo,st,op,XR,?_⟩
 constructor
 .exact c13 (akz h1 zN)
 constructor
 .exact k_j
 refine ⟨zO,?_⟩
 exact H.drop 3<|fun H=>H
theorem akD (H:Sat g w (Pt pc (zL m [vl,vs,vo,zJ b]) 241::Sl 97 1 Yx vs st::Sl 246 5 Yk vo op::l)) (a bb:Int) (tv:Value) (tt:zm) (ht:Z6 g ZH WV 1 tv tt) (hn:0<op.length) (hop:op.length<=99) (hst:st.length<=90000) (hok:Xy st op):zn 190 #[zI pc,.agg #[.int .u8 15,zJ a,zJ bb,tv]] w (fun r w'=>∃vs' SU st' op' b',Is (ZA ⟨st,op,b⟩ ⟨15,a,bb,tt⟩) ⟨st',op',b'⟩/\Xy st' op'/\st'.length<=st.length+1/\Sat g w' (Pt pc (zL m [vl,vs',SU,zJ b']) 241::Sl 97 1 Yx vs' st'::Sl 246 5 Yk SU op'::l)):=by
 obtain ⟨p,hp⟩:∃p,op[op.length-1]?=some p:=⟨_,laa zO⟩
 refine Fc.of Tryz.func190 rfl k_e ?_
 obtain ⟨q,hq⟩:∃q,op[0]?=some q:=⟨_,laa hn⟩
 refine ZN H<|fun p1 w1 H=>Z9 rfl<|zG H 0 0 zD<|bk<|cF (Z4 zO)<|cF (Z4 zO)<|cF (Z4 zO)<|cF (Z4 zO)<|cF (Z4 zO)<|cF (Z4 zO)<|cF (Z4 zO)<|cF (Z4 zO)<|cT (ZM zO)<|Z9 rfl<|zG H 1 13 zD ?_
 obtain ⟨b1,o1,E1⟩:=H.YQ 3 rfl 0 zO
 refine ZF E1 rfl rfl rfl<|Z9 rfl<|zz (H.el 3 rfl E1 hq) 1 zy<|H.Z7 [3,3,3]<|fun H=>?_
 refine Z8.mk (Fc.imp (Valid.pop H _ zO zO zO zO) ?_)
 rintro _ w2 ⟨k1,⟨Zx,⟨Y1,⟨XR,⟨rfl,⟨h1,⟨h2,⟨h3,H⟩⟩⟩⟩⟩⟩⟩⟩
 refine Z8.mk (Fc.imp (Valid.die H zO zO zO zO) ?_)
 rintro v' w3 ⟨VF,⟨UL,⟨XM,⟨h4,⟨h5,⟨h6,⟨h7,H⟩⟩⟩⟩⟩⟩⟩
 refine Z5.mk ?_
 refine ⟨VF,vo,UL,XM,XR,?_⟩
 constructor
 .exact c15 hq zN zN
 refine ⟨zO,?_⟩
 refine ⟨zO,?_⟩
 exact H.drop 3<|fun H=>H
theorem akE (H:Sat g w (Pt pc (zL m [vl,vs,vo,zJ b]) 241::Sl 97 1 Yx vs st::Sl 246 5 Yk vo op::l)) (a bb:Int) (tv:Value) (tt:zm) (ht:Z6 g ZH WV 1 tv tt) (ha:0<=a/\a<=9223372036854775807) (hall:∀n∈tt,0<=n/\n<=9223372036854775807) (hn:0<op.length) (hop:op.length<=99) (hst:st.length<=90000) (hok:Xy st op):zn 190 #[zI pc,.agg #[.int .u8 14,zJ a,zJ bb,tv]] w (fun r w'=>∃vs' SU st' op' b',Is (ZA ⟨st,op,b⟩ ⟨14,a,bb,tt⟩) ⟨st',op',b'⟩/\Xy st' op'/\st'.length<=st.length+1/\Sat g w' (Pt pc (zL m [vl,vs',SU,zJ b']) 241::Sl 97 1 Yx vs' st'::Sl 246 5 Yk SU op'::l)):=by
 obtain ⟨p,hp⟩:∃p,op[op.length-1]?=some p:=⟨_,laa zO⟩
 refine Fc.of Tryz.func190 rfl k_e<|ZN H<|fun p1 w1 H=>Z9 rfl<|zG H 0 0 zD<|bk<|cF (Z4 zO)<|cF (Z4 zO)<|cF (Z4 zO)<|cF (Z4 zO)<|cF (Z4 zO)<|cF (Z4 zO)<|cF (Z4 zO)<|cF (Z4 zO)<|cF (Z4 zO)<|cT (ZM zO)<|ZK (H.at 0 rfl) 0 rfl rfl rfl<|H.Z7 [3,3,3]<|fun H=>?_
 refine Z8.mk (Fc.imp (Valid.table H _ _ _ _ _ ht zO zO zO zO zO zO) ?_)
 rintro v' w2 ⟨Zx,⟨Y1,⟨XR,⟨h1,⟨h2,⟨h3,H⟩⟩⟩⟩⟩⟩
 refine Z8.mk (Fc.imp (Valid.die H zO zO zO zO) ?_)
 rintro V5 w3 ⟨VF,⟨UL,⟨XM,⟨h4,⟨h5,⟨h6,⟨h7,H⟩⟩⟩⟩⟩⟩⟩
 refine Z5.mk ?_
 refine ⟨VF,vo,UL,XM,XR,?_⟩
 constructor
 .exact c14 zN zN
 refine ⟨zO,?_⟩
 refine ⟨zO,?_⟩
 exact H.drop 3<|fun H=>H
end
end Go.Proofs.YtakpnepblgfknaaGreatDoor.Valid
namespace Go.Proofs.YtakpnepblgfknaaGreatDoor.Valid
open Go Y2 Go.RowKit
open YZ Zn X4 YS
section
variable {g:ZB} {w:World} {l:List As} {pc:Nat} {m:Zg} {vl vs vo:Value} {st:zm} {op:List ZG} {b:Int}
theorem c5 {c c':Ck} {a bb:Int} {tt:zm} (h:Is (Ve c) c'):Is (ZA c ⟨5,a,bb,tt⟩) c':=by grind [ZA]
theorem c11 {c c':Ck} {a bb:Int} {tt:zm} (h:Is (S6 c) c'):Is (ZA c ⟨11,a,bb,tt⟩) c':=by grind [ZA]
theorem akF {c c1:Ck} (h:Is (YL c) c1) (hb:c1.bad≠0):Is (Ve c) c1:=by grind [Is,Ve]
theorem akG {b':Int} {st':zm} {p:ZG} (hp:op[op.length-1]?=some p) (h:Is (YL ⟨st,op,b⟩) ⟨st',op,b'⟩) (hb:b'=0):Is (Ve ⟨st,op,b⟩) ⟨st',op.take (op.length-1)++[⟨5,p.kind,p.base,false,p.under⟩],b'⟩:=by grind [Is,Ve,V4]
theorem anG (H:Sat g w (Pt pc (zL m [vl,vs,vo,zJ b]) 241::Sl 97 1 Yx vs st::Sl 246 5 Yk vo op::l)) (a bb:Int) (tv:Value) (tt:zm) (ht:Z6 g ZH WV 1 tv tt) (hn:0<op.length) (hop:op.length<=99) (hst:st.length<=90000) (hok:Xy st op):zn 190 #[zI pc,.agg #[.int .u8 5,zJ a,zJ bb,tv]] w (fun r w'=>∃vs' SU st' op' b',Is (ZA ⟨st,op,b⟩ ⟨5,a,bb,tt⟩) ⟨st',op',b'⟩/\Xy st' op'/\st'.length<=st.length+1/\Sat g w' (Pt pc (zL m [vl,vs',SU,zJ b']) 241::Sl 97 1 Yx vs' st'::Sl 246 5 Yk SU op'::l)):=by
 obtain ⟨p,hp⟩:∃p,op[op.length-1]?=some p:=⟨_,laa zO⟩
 refine Fc.of Tryz.func190 rfl k_e<|ZN H<|fun p1 w1 H=>Z9 rfl<|zG H 0 0 zD<|bk<|cF (Z4 zO)<|cF (Z4 zO)<|cF (Z4 zO)<|cF (Z4 zO)<|cT (ZM zO)<|H.Z7 [3,3,3]<|fun H=>?_
 refine Z8.mk (Fc.imp (Valid.close H _ hp zO zO zO zO) ?_)
 rintro _ w2 ⟨Zx,⟨Y1,⟨XR,⟨rfl,⟨h1,⟨h2,⟨h3,H⟩⟩⟩⟩⟩⟩⟩
 refine ZX H rfl<|fun p2 w3 H=>ZJ H 0 rfl rfl rfl rfl<|fun w2 H=>Z9 rfl<|zG H 1 14 zD ?_
 refine zq (fun c1=>?_) (fun c1=>?_)
 rotate_left
 .refine Z5.mk ?_
  refine ⟨Zx,vo,Y1,op,XR,?_⟩
  constructor
  .exact c5 (akF h1 zN)
  refine ⟨zO,?_⟩
  refine ⟨zO,?_⟩
  exact H.Z7 [3,3,3]<|fun H=>zw H [4,3]<|fun H=>H
 refine ZI H [] [zHp0,zHp1,zHp2,zHp3,zHh4,zHp5,zHp6,zHp7,zHh8,zHp9,zHp10,zHp11,zHp12,zHp13,zHfr14] mixed k_e k_e<|fun w3 H=>zE rfl rfl<|zF 1 13 zD rfl<|zE rfl rfl<|zF 1 13 zD rfl ?_
 obtain ⟨a1,c2,V1⟩:=H.form 3 rfl
 refine tk (fun _ Z=>W3 V1 rfl zK)<|ZU zO ?_
 obtain ⟨v1,V2⟩:=H.vw 3 rfl (0) (((op.length)-1)) zO zO
 refine tk (fun _ Z=>Wl V2 rfl rfl (.inl zK) (.inr ⟨_,by first|rfl|(congr 2;omega)⟩) zK)<|zE rfl rfl<|Yc H 1 rfl rfl rfl k_x<|fun w2 H=>?_
 replace H:=H.Le 3 rfl V2
 simp only [List.set_cons_succ,List.set_cons_zero] at H
 have hto:(op.take (op.length-1)).length=op.length-1:=by simp
 have Ep:=aeL (p':=⟨5,p.kind,p.base,false,p.under⟩) hp
 refine ZI H [] [zHp0,zHp1,zHp2,zHp3,zHh4,zHp5,zHh6,zHp7,zHh8,zHp9,zHh10,zHp11,zHh12,zHp13,zHf14,zHfr15,zHp16,zHp17,zHfr18] mixed k_e k_e<|fun w3 H=>zE rfl rfl<|zF 1 13 zD rfl<|zE rfl rfl<|zF 4 0 zD rfl<|zE rfl rfl<|zF 0 1 zD rfl<|zE rfl rfl<|zF 0 2 zD rfl<|zE rfl rfl<|zF 0 4 zD rfl<|tk (fun _ Z=>Zq rfl rfl rfl zK)<|ZZ H rfl rfl rfl rfl<|fun p3 w2 H=>Zs.mk (H.drop 0 (fun H=>H))<|WS (ys:=[⟨_,_,_,_,_⟩]) 24 H 4 rfl (H.at 0 rfl) rfl (fun y _=>rfl) rfl rfl rfl zO zO<|fun v2 w3 H=>zE rfl rfl<|Yc H 2 rfl rfl rfl (H.one 4 rfl)<|fun w2 H=>Z5.mk ?_
 refine ⟨Zx,v2,Y1,List.take (op.length-1) op++[{ op:=5,kind:=p.2,base:=p.3,dead:=false,under:=p.5 }],XR,?_⟩
 constructor
 .exact c5 (akG hp h1 zN)
 constructor
 .exact Ep ▸ h2.same hp rfl
 refine ⟨zO,?_⟩
 exact H.Z7 [4,4,4]<|fun H=>zw H [5,4,3]<|fun H=>H
theorem acK {b':Int} (h:Is (Yw ⟨st,op,b⟩ 10) ⟨st,op,b'⟩):b'≠0:=by
 unfold Is Yw at h
 split at h
 .grind
 .grind
theorem anH {b' b'':Int} {st':zm} {p:ZG} (hp:op[op.length-1]?=some p) (h:Is (YL ⟨st,op,b⟩) ⟨st',op,b'⟩) (hpk:p.op=4/\p.kind≠64) (h2:Is (Yw ⟨st',op,b'⟩ 10) ⟨st',op,b''⟩):Is (S6 ⟨st,op,b⟩) ⟨st',op,b''⟩:=by
 have hb:=acK h2
 unfold Is at *;unfold S6;simp only;rw [<-h,V4 hp,if_pos hpk,<-h2]
 exact (if_neg hb).symm
theorem akH {b':Int} {st':zm} {p:ZG} (hp:op[op.length-1]?=some p) (h:Is (YL ⟨st,op,b⟩) ⟨st',op,b'⟩) (hpk:¬(p.op=4/\p.kind≠64)) (hb:b'≠0):Is (S6 ⟨st,op,b⟩) ⟨st',op,b'⟩:=by
 unfold Is at *;unfold S6;simp only;rw [<-h,V4 hp,if_neg hpk]
 exact (if_neg hb).symm
theorem akI {b':Int} {st' akJ:zm} {p:ZG} (hp:op[op.length-1]?=some p) (h:Is (YL ⟨st,op,b⟩) ⟨st',op,b'⟩) (hpk:¬(p.op=4/\p.kind≠64)) (hb:b'=0) (h3:Is (Xl ⟨st',op.take (op.length-1),b'⟩ p.kind) ⟨akJ,op.take (op.length-1),b'⟩):Is (S6 ⟨st,op,b⟩) ⟨akJ,op.take (op.length-1),b'⟩:=by
 unfold Is at *;unfold S6;simp only;rw [<-h,V4 hp,if_neg hpk]
 simp only
 rw [if_pos hb,<-h3]
theorem akK (H:Sat g w (Pt pc (zL m [vl,vs,vo,zJ b]) 241::Sl 97 1 Yx vs st::Sl 246 5 Yk vo op::l)) (a bb:Int) (tv:Value) (tt:zm) (ht:Z6 g ZH WV 1 tv tt) (hn:0<op.length) (hop:op.length<=99) (hst:st.length<=90000) (hok:Xy st op):zn 190 #[zI pc,.agg #[.int .u8 11,zJ a,zJ bb,tv]] w (fun r w'=>∃vs' SU st' op' b',Is (ZA ⟨st,op,b⟩ ⟨11,a,bb,tt⟩) ⟨st',op',b'⟩/\Xy st' op'/\st'.length<=st.length+1/\Sat g w' (Pt pc (zL m [vl,vs',SU,zJ b']) 241::Sl 97 1 Yx vs' st'::Sl 246 5 Yk SU op'::l)):=by
 obtain ⟨p,hp⟩:∃p,op[op.length-1]?=some p:=⟨_,laa zO⟩
 by_cases hpk:p.op=4/\p.kind≠64
 .obtain ⟨hpo,anI⟩:=hpk
  refine Fc.of Tryz.func190 rfl k_e<|ZN H<|fun p1 w1 H=>Z9 rfl<|zG H 0 0 zD<|bk<|cF (Z4 zO)<|cF (Z4 zO)<|cF (Z4 zO)<|cF (Z4 zO)<|cF (Z4 zO)<|cT (ZM zO)<|H.Z7 [3,3,3]<|fun H=>?_
  refine Z8.mk (Fc.imp (Valid.close H _ hp zO zO zO zO) ?_)
  rintro _ w2 ⟨Zx,⟨Y1,⟨XR,⟨rfl,⟨h1,⟨h2,⟨h3,H⟩⟩⟩⟩⟩⟩⟩
  refine ZX H rfl<|fun p2 w3 H=>ZJ H 0 rfl rfl rfl rfl<|fun w2 H=>Z9 rfl<|zG H 0 0 zD<|Wp (ZM zN)<|Z9 rfl<|zG H 0 1 zD<|cT (V8 zN)<|H.Z7 [3,3,3]<|fun H=>?_
  refine Z8.mk (Fc.imp (Valid.fail H _) ?_)
  rintro v' w3 ⟨Jq,⟨h4,H⟩⟩
  have hbb:=acK h4
  refine Z9 rfl<|zG H 0 14 zD<|cF (Z4 zN)<|Z5.mk ?_
  refine ⟨Zx,vo,Y1,op,Jq,?_⟩
  constructor
  .exact c11 (anH hp h1 ⟨hpo,anI⟩ h4)
  refine ⟨zO,?_⟩
  refine ⟨zO,?_⟩
  exact zw H [4,3]<|fun H=>H
 .refine Fc.of Tryz.func190 rfl k_e<|ZN H<|fun p1 w1 H=>Z9 rfl<|zG H 0 0 zD<|bk<|cF (Z4 zO)<|cF (Z4 zO)<|cF (Z4 zO)<|cF (Z4 zO)<|cF (Z4 zO)<|cT (ZM zO)<|H.Z7 [3,3,3]<|fun H=>?_
  refine Z8.mk (Fc.imp (Valid.close H _ hp zO zO zO zO) ?_)
  rintro _ w2 ⟨Zx,⟨Y1,⟨XR,⟨rfl,⟨h1,⟨h2,⟨h3,H⟩⟩⟩⟩⟩⟩⟩
  refine ZX H rfl<|fun p2 w3 H=>ZJ H 0 rfl rfl rfl rfl<|fun w2 H=>Z9 rfl<|zG H 0 0 zD ?_
  refine br (fun c1=>?_) (fun c1=>?_)
  focus
   replace c1:=ZS (c1)
   refine Z9 rfl<|zG H 0 1 zD<|cF (Xa zO)<|Z9 rfl<|zG H 1 14 zD ?_
   refine zq (fun c2=>?_) (fun c2=>?_)
   rotate_left
   .refine Z5.mk ?_
    refine ⟨Zx,vo,Y1,op,XR,?_⟩
    constructor
    .exact c11 (akH hp h1 hpk zO)
    refine ⟨zO,?_⟩
    refine ⟨zO,?_⟩
    exact H.Z7 [3,3,3]<|fun H=>zw H [4,3]<|fun H=>H
   refine ZI H [] [zHp0,zHp1,zHp2,zHp3,zHh4,zHp5,zHp6,zHp7,zHh8,zHp9,zHp10,zHp11,zHp12,zHp13,zHfr14] mixed k_e k_e<|fun w3 H=>zE rfl rfl<|zF 1 13 zD rfl<|zE rfl rfl<|zF 1 13 zD rfl ?_
   obtain ⟨a1,c3,V1⟩:=H.form 3 rfl
   refine tk (fun _ Z=>W3 V1 rfl zK)<|ZU zO ?_
   obtain ⟨v1,V2⟩:=H.vw 3 rfl (0) (((op.length)-1)) zO zO
   refine tk (fun _ Z=>Wl V2 rfl rfl (.inl zK) (.inr ⟨_,by first|rfl|(congr 2;omega)⟩) zK)<|zE rfl rfl<|Yc H 1 rfl rfl rfl k_x<|fun w2 H=>Z9 rfl<|zG H 0 1 zD ?_
  rotate_left 1
  focus
   replace c1:=ZR (c1)
   refine cF rfl<|Z9 rfl<|zG H 1 14 zD ?_
   refine zq (fun c2=>?_) (fun c2=>?_)
   rotate_left
   .refine Z5.mk ?_
    refine ⟨Zx,vo,Y1,op,XR,?_⟩
    constructor
    .exact c11 (akH hp h1 hpk zO)
    refine ⟨zO,?_⟩
    refine ⟨zO,?_⟩
    exact H.Z7 [3,3,3]<|fun H=>zw H [4,3]<|fun H=>H
   refine ZI H [] [zHp0,zHp1,zHp2,zHp3,zHh4,zHp5,zHp6,zHp7,zHh8,zHp9,zHp10,zHp11,zHp12,zHp13,zHfr14] mixed k_e k_e<|fun w3 H=>zE rfl rfl<|zF 1 13 zD rfl<|zE rfl rfl<|zF 1 13 zD rfl ?_
   obtain ⟨a1,c3,V1⟩:=H.form 3 rfl
   refine tk (fun _ Z=>W3 V1 rfl zK)<|ZU zO ?_
   obtain ⟨v1,V2⟩:=H.vw 3 rfl (0) (((op.length)-1)) zO zO
   refine tk (fun _ Z=>Wl V2 rfl rfl (.inl zK) (.inr ⟨_,by first|rfl|(congr 2;omega)⟩) zK)<|zE rfl rfl<|Yc H 1 rfl rfl rfl k_x<|fun w2 H=>Z9 rfl<|zG H 0 1 zD ?_
  rotate_left 1
  .replace H:=H.Le 3 rfl V2
   simp only [List.set_cons_succ,List.set_cons_zero] at H
   refine H.Z7 [3,3,3]<|fun H=>?_
   refine Z8.mk (Fc.imp (Valid.push H _ zO) ?_)
   rintro v' w3 ⟨VF,⟨UL,⟨h4,⟨h5,⟨h6,H⟩⟩⟩⟩⟩
   refine Z5.mk ?_
   refine ⟨VF,v1,UL,List.take (op.length-1) op,XR,?_⟩
   constructor
   .exact c11 (akI hp h1 hpk zN zN)
   constructor
   .exact (h2.more zO).less
   refine ⟨zO,?_⟩
   exact zw H [4,3]<|fun H=>H
  .replace H:=H.Le 3 rfl V2
   simp only [List.set_cons_succ,List.set_cons_zero] at H
   refine H.Z7 [3,3,3]<|fun H=>?_
   refine Z8.mk (Fc.imp (Valid.push H _ zO) ?_)
   rintro v' w3 ⟨VF,⟨UL,⟨h4,⟨h5,⟨h6,H⟩⟩⟩⟩⟩
   refine Z5.mk ?_
   refine ⟨VF,v1,UL,List.take (op.length-1) op,XR,?_⟩
   constructor
   .exact c11 (akI hp h1 hpk zN zN)
   constructor
   .exact (h2.more zO).less
   refine ⟨zO,?_⟩
   exact zw H [4,3]<|fun H=>H
end
end Go.Proofs.YtakpnepblgfknaaGreatDoor.Valid
namespace Go.Proofs.YtakpnepblgfknaaGreatDoor.Valid
open Go Y2 Go.RowKit
open YZ Zn X4 YS
theorem acL (o:Int) (w:World):zn 236 #[.int .u8 o] w (fun v w'=>(∃r,v=.int .u8 r/\r=TK o)/\w=w'):=by
 refine Fc.of Tryz.func236 rfl k_e ?_
 have H:=Sat.start w
 refine bk ?_
 refine zq (fun c1=>?_) (fun c1=>?_)
 .refine cT (ZM zN)<|Z5.mk ?_
  constructor
  .refine ⟨127,?_⟩
   constructor
   .simp
   exact (if_pos zO).symm
  rfl
 refine zq (fun c2=>?_) (fun c2=>?_)
 .refine cT (ZM zN)<|Z5.mk ?_
  constructor
  .refine ⟨127,?_⟩
   constructor
   .simp
   exact (if_pos zO).symm
  rfl
 refine zq (fun c3=>?_) (fun c3=>?_)
 .refine cT (ZM zN)<|Z5.mk ?_
  constructor
  .refine ⟨127,?_⟩
   constructor
   .simp
   exact (if_pos zO).symm
  rfl
 refine zq (fun c4=>?_) (fun c4=>?_)
 .refine cT (ZM zN)<|Z5.mk ?_
  constructor
  .refine ⟨127,?_⟩
   constructor
   .simp
   exact (if_pos zO).symm
  rfl
 refine zq (fun c5=>?_) (fun c5=>?_)
 .refine cT (ZM zN)<|Z5.mk ?_
  constructor
  .refine ⟨127,?_⟩
   constructor
   .simp
   exact (if_pos zO).symm
  rfl
 refine zq (fun c6=>?_) (fun c6=>?_)
 .refine cT (ZM zN)<|Z5.mk ?_
  constructor
  .refine ⟨127,?_⟩
   constructor
   .simp
   exact (if_pos zO).symm
  rfl
 refine zq (fun c7=>?_) (fun c7=>?_)
 .refine cT (ZM zN)<|Z5.mk ?_
  constructor
  .refine ⟨127,?_⟩
   constructor
   .simp
   exact (if_pos zO).symm
  rfl
 refine zq (fun c8=>?_) (fun c8=>?_)
 .refine Z5.mk ?_
  constructor
  .refine ⟨127,?_⟩
   constructor
   .simp
   exact (if_pos zO).symm
  rfl
 refine Z5.mk ?_
 constructor
 .refine ⟨126,?_⟩
  constructor
  .simp
  exact (if_neg zO).symm
 rfl
section
variable {o k:Int} {xs:zm} {b:Bool}
theorem anJ (h:XV o=(xs,k,b)) (hb:b=true):Xk o=(xs,[k],true):=by grind [Xk]
theorem IZ (h:XV o=(xs,k,b)) (hb:b=false):Xk o=if 0<wid o/\o<54 then ([127],[TK o],true) else if 0<wid o then ([127,TK o],[],true) else if o=63 then ([],[127],true) else if o=64 then ([127],[127],true) else if o=65 then ([],[127],true) else if o=66 then ([],[126],true) else ([],[],false):=by grind [Xk]
end
theorem M8 (o:Int) (w:World):zn 224 #[.int .u8 o] w (fun v w'=>∃u y xs ys q,v=.tuple #[u,y,.bool q]/\Xk o=(xs,ys,q)/\Sat (WC w) w' [Sl 97 1 Yx y ys,Sl 97 1 Yx u xs]):=by
 refine Fc.of Tryz.func224 rfl k_e ?_
 have H:=Sat.start w
 refine Z8.mk (Fc.imp (YZ.Lh _ _) ?_)
 rintro _ w1 ⟨u1,⟨k1,⟨b1,⟨J2,⟨rfl,⟨h1,H'⟩⟩⟩⟩⟩⟩
 refine H.X8 H' ?_
 clear H H'
 intro H
 refine cI (fun c1=>?_) (fun c1=>?_)
 .refine ZZ H rfl rfl rfl rfl<|fun p1 w2 H=>Z5.mk ?_
  (refine H.Wu (n:=1) (en:=Yx) (s:=1) 0 rfl [_] rfl rfl (fun _=>rfl) rfl ?_;intro H;exact ⟨_,_,_,_,_,rfl,anJ h1 zN,H⟩)
 refine bk ?_
 refine Z8.mk (Fc.imp (YZ.width _ _) ?_)
 rintro _ _ ⟨⟨r1,⟨rfl,h2⟩⟩,rfl⟩
 refine br (fun c2=>?_) (fun c2=>?_)
 .replace c2:=YE (c2)
  refine zv (fun c3=>?_) (fun c3=>?_)
  .refine ZZ H rfl rfl rfl rfl<|fun p1 w2 H=>?_
   refine Z8.mk (Fc.imp (Valid.acL _ _) ?_)
   rintro _ _ ⟨⟨r2,⟨rfl,h3⟩⟩,rfl⟩
   refine ZZ H rfl rfl rfl rfl<|fun p2 w1 H=>Z5.mk ?_
   (refine H.Wu (n:=1) (en:=Yx) (s:=1) 0 rfl [_] rfl rfl (fun _=>rfl) rfl ?_;intro H;refine H.Wu (n:=1) (en:=Yx) (s:=1) 1 rfl [_] rfl rfl (fun _=>rfl) rfl ?_;intro H;exact ⟨_,_,_,_,_,rfl,(IZ h1 zN).trans (by grind),H.del 2⟩)
  refine Z8.mk (Fc.imp (YZ.width _ _) ?_)
  rintro _ _ ⟨⟨r2,⟨rfl,h3⟩⟩,rfl⟩
  refine cT (Y9 zO) ?_
  refine Z8.mk (Fc.imp (Valid.acL _ _) ?_)
  rintro _ _ ⟨⟨r3,⟨rfl,h4⟩⟩,rfl⟩
  refine ZZ H rfl rfl rfl rfl<|fun p1 w2 H=>Z5.mk ?_
  (refine H.Wu (n:=2) (en:=Yx) (s:=1) 0 rfl [_,_] rfl rfl (fun _=>rfl) rfl ?_;intro H;exact ⟨_,_,_,_,_,rfl,(IZ h1 zN).trans (by grind),(H.U4 (en:=Yx) (s:=1) 97 (fun _=>rfl)).del 2⟩)
 replace c2:=YD (c2)
 refine cF rfl ?_
 refine Z8.mk (Fc.imp (YZ.width _ _) ?_)
 rintro _ _ ⟨⟨r2,⟨rfl,h3⟩⟩,rfl⟩
 refine cF (Zj zO) ?_
 refine zq (fun c3=>?_) (fun c3=>?_)
 .refine ZZ H rfl rfl rfl rfl<|fun p1 w2 H=>Z5.mk ?_
  (refine H.Wu (n:=1) (en:=Yx) (s:=1) 0 rfl [_] rfl rfl (fun _=>rfl) rfl ?_;intro H;exact ⟨_,_,_,_,_,rfl,(IZ h1 zN).trans (by grind),((H.U4 (en:=Yx) (s:=1) 97 (fun _=>rfl)).front (j:=1) rfl).del 2⟩)
 refine zq (fun c4=>?_) (fun c4=>?_)
 .refine ZZ H rfl rfl rfl rfl<|fun p1 w2 H=>ZZ H rfl rfl rfl rfl<|fun p2 w1 H=>Z5.mk ?_
  (refine H.Wu (n:=1) (en:=Yx) (s:=1) 0 rfl [_] rfl rfl (fun _=>rfl) rfl ?_;intro H;refine H.Wu (n:=1) (en:=Yx) (s:=1) 1 rfl [_] rfl rfl (fun _=>rfl) rfl ?_;intro H;exact ⟨_,_,_,_,_,rfl,(IZ h1 zN).trans (by grind),H.del 2⟩)
 refine zq (fun c5=>?_) (fun c5=>?_)
 .refine ZZ H rfl rfl rfl rfl<|fun p1 w2 H=>Z5.mk ?_
  (refine H.Wu (n:=1) (en:=Yx) (s:=1) 0 rfl [_] rfl rfl (fun _=>rfl) rfl ?_;intro H;exact ⟨_,_,_,_,_,rfl,(IZ h1 zN).trans (by grind),((H.U4 (en:=Yx) (s:=1) 97 (fun _=>rfl)).front (j:=1) rfl).del 2⟩)
 refine zq (fun c6=>?_) (fun c6=>?_)
 .refine ZZ H rfl rfl rfl rfl<|fun p1 w2 H=>Z5.mk ?_
  (refine H.Wu (n:=1) (en:=Yx) (s:=1) 0 rfl [_] rfl rfl (fun _=>rfl) rfl ?_;intro H;exact ⟨_,_,_,_,_,rfl,(IZ h1 zN).trans (by grind),((H.U4 (en:=Yx) (s:=1) 97 (fun _=>rfl)).front (j:=1) rfl).del 2⟩)
 exact Z5.mk<|⟨_,_,_,_,_,rfl,(IZ h1 zN).trans (by grind),((H.U4 (en:=Yx) (s:=1) 97 (fun _=>rfl)).U4 (en:=Yx) (s:=1) 97 (fun _=>rfl)).del 2⟩
section
variable {g:ZB} {w:World} {l:List As} {pc:Nat} {m:Zg} {vl vs vo:Value} {st:zm} {op:List ZG} {b:Int}
theorem IY (v:Value) (xs:zm) (H:Sat g w (Pt pc (zL m [vl,vs,vo,zJ b]) 241::Sl 97 1 Yx vs st::Sl 246 5 Yk vo op::Sl 97 1 Yx v xs::l)) (hl:xs.length<=1000) (hn:0<op.length) (hop:op.length<=100) (hst:st.length<=90000) (hok:Xy st op):zn 222 #[zI pc,v] w (fun r w'=>∃vs' st' b',Is (Xo ⟨st,op,b⟩ xs) ⟨st',op,b'⟩/\Xy st' op/\st'.length<=st.length/\Sat g w' (Pt pc (zL m [vl,vs',vo,zJ b']) 241::Sl 97 1 Yx vs' st'::Sl 246 5 Yk vo op::Sl 97 1 Yx v xs::l)):=by
 refine Fc.of Tryz.func222 rfl k_e<|Yz H 3 rfl rfl<|ZU zO ?_
 refine YO.rule (α:=Nat × zm × Int × Value) (xs.length,st,b,vs) (fun x_=>[(4,zJ ((x_.1:Int)-1))]) (fun x_ w_=>(x_.1<=xs.length)/\(Is (Xo ⟨st,op,b⟩ (xs.drop x_.1)) ⟨x_.2.1,op,x_.2.2.1⟩)/\(Xy x_.2.1 op)/\(x_.2.1.length<=st.length)/\Sat g w_ ((Pt pc (zL m [vl,x_.2.2.2,vo,zJ x_.2.2.1]) 241::Sl 97 1 Yx x_.2.2.2 x_.2.1::Sl 246 5 Yk vo op::Sl 97 1 Yx v xs::l))) (fun x_=>x_.1) ?_ ?_ ?_
 .exact k_a
 .try simp only
  refine ⟨zO,?_⟩
  constructor
  .exact ahw (lna _)
  refine ⟨zN,?_⟩
  refine ⟨zO,?_⟩
  exact H
 rintro ⟨i,s1,b1,u1⟩ f_ w_ ⟨hi,ht,ho,hs,H⟩
 try simp only at hi ht ho hs H ⊢
 rcases lMb i with h0|h0
 .subst h0
  refine cF (Yy zO)<|Z5.mk ?_
  refine ⟨u1,s1,b1,?_⟩
  refine ⟨zN,?_⟩
  refine ⟨zN,?_⟩
  refine ⟨zN,?_⟩
  exact H
 .obtain ⟨j,rfl⟩:∃j,i=j+1:=⟨i-1,by omega⟩
  have e:((j+1:Nat):Int)-1=(j:Int):=by omega
  rw [e]
  obtain ⟨k,hk⟩:∃k,xs[j]?=some k:=⟨_,laa zO⟩
  refine cT (Yh zO)<|bk ?_
  obtain ⟨b2,o1,E1⟩:=H.YQ 3 rfl (j) zO
  refine ZF E1 rfl rfl rfl<|zz (H.el 3 rfl E1 hk) 0 zy ?_
  refine Z8.mk (Fc.imp (Valid.pop H _ zN zN zO zN) ?_)
  rintro _ w1 ⟨k1,⟨Zx,⟨Y1,⟨XR,⟨rfl,⟨h1,⟨h2,⟨h3,H⟩⟩⟩⟩⟩⟩⟩⟩
  refine ZU zO ?_
  refine WM.mk ((j,Y1,XR,Zx)) (ZL rfl (ZV)) ?_ ?_
  .refine ⟨zO,?_⟩
   constructor
   .exact Il hk ht zN
   refine ⟨zN,?_⟩
   constructor
   .grind
   exact H
  omega
theorem IX (v:Value) (xs:zm) (H:Sat g w (Pt pc (zL m [vl,vs,vo,zJ b]) 241::Sl 97 1 Yx vs st::Sl 246 5 Yk vo op::Sl 97 1 Yx v xs::l)) (hl:xs.length<=1000) (hst:st.length<=90000):zn 223 #[zI pc,v] w (fun r w'=>∃vs' st',Is (WQ ⟨st,op,b⟩ xs) ⟨st',op,b⟩/\st.length<=st'.length/\st'.length<=st.length+xs.length/\Sat g w' (Pt pc (zL m [vl,vs',vo,zJ b]) 241::Sl 97 1 Yx vs' st'::Sl 246 5 Yk vo op::Sl 97 1 Yx v xs::l)):=by
 refine Fc.of Tryz.func223 rfl k_e<|Yz H 3 rfl rfl ?_
 refine YO.rule (α:=Nat × zm × Value) (0,st,vs) (fun x_=>[(8,zJ x_.1)]) (fun x_ w_=>(x_.1<=xs.length)/\(GI st op b xs x_.1 x_.2.1)/\(st.length<=x_.2.1.length/\x_.2.1.length<=st.length+x_.1)/\Sat g w_ ((Pt pc (zL m [vl,x_.2.2,vo,zJ b]) 241::Sl 97 1 Yx x_.2.2 x_.2.1::Sl 246 5 Yk vo op::Sl 97 1 Yx v xs::l))) (fun x_=>xs.length-x_.1) ?_ ?_ ?_
 .exact k_a
 .try simp only
  refine ⟨zO,?_⟩
  constructor
  .exact GI.zero
  refine ⟨zO,?_⟩
  exact H
 rintro ⟨i,s1,u1⟩ f_ w_ ⟨hi,hg,hs,H⟩
 try simp only at hi hg hs H ⊢
 refine zv (fun c1=>?_) (fun c1=>?_)
 .refine bk ?_
  obtain ⟨x1,hx1⟩:∃x,(xs)[(i)]?=some x:=⟨_,laa zO⟩
  obtain ⟨b1,o1,E1⟩:=H.YQ 3 rfl (i) zO
  refine ZF E1 rfl rfl rfl<|zz (H.el 3 rfl E1 hx1) 0 zy ?_
  refine Z8.mk (Fc.imp (Valid.push H _ zO) ?_)
  rintro v' w1 ⟨Zx,⟨Y1,⟨h1,⟨h2,⟨h3,H⟩⟩⟩⟩⟩
  refine ZU zO ?_
  refine WM.mk ((i+1,Y1,Zx)) (Zr rfl zO (ZV)) ?_ ?_
  .refine ⟨zO,?_⟩
   constructor
   .exact GI.step hg hx1 zN
   constructor
   .grind
   exact H
  omega
 refine Z5.mk ?_
 refine ⟨u1,s1,?_⟩
 constructor
 .exact hg.fin zO
 refine ⟨zO,?_⟩
 refine ⟨zO,?_⟩
 exact H
end
end Go.Proofs.YtakpnepblgfknaaGreatDoor.Valid
